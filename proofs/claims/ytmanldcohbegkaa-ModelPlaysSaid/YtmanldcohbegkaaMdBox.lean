/-
  The model's laws: a reply in a box of its own.
-/
import Derived.Test.YtmanldcohbegkaaMdDuo
namespace Go.Proofs.Ytmanldcohbegkaa
open Go.RowKit

theorem Kp.more {B : Nat} {G G' : Nat → Prop} {w w' : World} (h : Kp B G' w w') (hG : ∀ z, G z → G' z) : Kp B G w w' := by
  obtain ⟨F, hk, h1, h2⟩ := h
  exact ⟨F, hk, fun x hx => ⟨(h1 x hx).1, fun hg => (h1 x hx).2 (hG x hg)⟩, h2⟩
theorem Kp.then {B : Nat} {G : Nat → Prop} {w w' w'' : World} (h : Kp B G w w') (k : Keeps (fun _ => False) w' w'') : Kp B G w w'' := by
  obtain ⟨F, hk, h1, h2⟩ := h
  exact ⟨F, hk.trans k (fun _ _ h => h.elim), h1, h2⟩
/-- What a call answered, laid into a new block. -/
theorem duo_box {B : Nat} {G : Nat → Prop} {w w4 w5 : World} {m : Nat} {S : Mo} {d : Nat} {R : Mo} {cs : Array Value} {T : TypeId} (hw5 : w5 = w4.alloc (.cells cs T)) (hdu : Duo B G w4 m S d R) (hkp : Kp B G w w4) :
    ∃ G' : Nat → Prop, (∀ z, G z → G' z) ∧ G' w4.heap.size ∧ Duo B G' w5 m S d R ∧ Kp B G w w5 ∧ CellsAt w5 w4.heap.size cs T ∧ Keeps (fun _ => False) w4 w5 := by
  have hk : Keeps (fun _ => False) w4 w5 := by rw [hw5]; exact (Keeps.refl _ w4).alloc _
  have hc : CellsAt w5 w4.heap.size cs T := by rw [hw5]; exact heap_at rfl
  exact ⟨fun z => G z ∨ z = w4.heap.size, fun z h => .inl h, .inr rfl, hdu.also hk (fun z => z = w4.heap.size) (fun z h => by omega) (fun z h => by have := hc.lt; omega), hkp.then hk, hc, hk⟩
/-- The volumes of the first of two models, as a row that both are kept from. -/
theorem duo_list {B : Nat} {G : Nat → Prop} {w : World} {m : Nat} {S : Mo} {d : Nat} {R : Mo} (h : Duo B G w m S d R) (hg : Good S) :
    Calls Try.prog 17 #[.pointer (some ⟨m, 0, none⟩)] w fun e w' => ∃ a n c, ∃ G' : Nat → Prop, e = .returned (.slice a n c) ∧ w'.ownsRow w.heap.size 45 6 (.slice a n c) n (volsV S.vols) ∧ Keeps (fun _ => False) w w' ∧ Duo B G' w' m S d R ∧ (∀ z, G z → G' z) ∧ (∀ k, Value.ownBlock (.slice a n c) = some k → G' k) ∧ n ≤ S.vols.length ∧ S.vols.length ≤ n := by
  refine (duo_vols h hg).mono ?_
  rintro e w' ⟨a, n, c, rfl, hr, hk⟩
  have hn : n = S.vols.length := by
    rcases hr.2 with ⟨e, h0⟩ | ⟨g, cap, cur, e, _⟩
    · injection e with e1 e2 e3; omega
    · injection e
  have hlt := hr.lt
  rw [← hn] at hr
  exact ⟨a, n, c, fun z => G z ∨ Value.ownBlock (.slice a n c) = some z, rfl, hr, hk, h.also hk (fun z => Value.ownBlock (.slice a n c) = some z) (fun z hz => (hlt z hz).1) (fun z hz => (hlt z hz).2), fun z h => .inl h, fun k hk => .inr hk, by omega, by omega⟩
end Go.Proofs.Ytmanldcohbegkaa
