/-
  The model's laws: two models beside each other; two replies that are the same.
-/
import Derived.Test.YtmanldcohbegkaaMdTrouble
namespace Go.Proofs.Ytmanldcohbegkaa
open Go.RowKit

/-- What is kept: all below B, what G names, and bytes. -/
def Kp (B : Nat) (G : Nat → Prop) (w w' : World) : Prop := ∃ F : Nat → Prop, Keeps F w w' ∧ (∀ x, F x → B ≤ x ∧ ¬ G x) ∧ ∀ x cur, w.heap[x]? = some (.cells cur 5 (0, 0)) → ¬ F x
theorem Kp.of_keeps {B : Nat} {G : Nat → Prop} {w w' : World} (h : Keeps (fun _ => False) w w') : Kp B G w w' := ⟨_, h, fun _ h => h.elim, fun _ _ _ h => h⟩
theorem Kp.below {B : Nat} {G : Nat → Prop} {w w' : World} (h : Kp B G w w') (hB : B ≤ w.heap.size) : Below B w w' := by
  obtain ⟨F, hk, h1, _⟩ := h
  exact hk.below hB (fun x hx hf => by have := (h1 x hf).1; omega)
theorem Kp.size {B : Nat} {G : Nat → Prop} {w w' : World} (h : Kp B G w w') : w.heap.size ≤ w'.heap.size := by
  obtain ⟨F, hk, _⟩ := h; exact hk.size
theorem Kp.cells {B : Nat} {G : Nat → Prop} {w w' : World} (h : Kp B G w w') {b : Nat} {cs : Array Value} {T : TypeId} (hc : CellsAt w b cs T) (hb : b < B ∨ G b) : CellsAt w' b cs T := by
  obtain ⟨F, hk, h1, _⟩ := h
  exact hc.keeps hk (fun hf => by have := h1 b hf; rcases hb with hb | hb; omega; exact this.2 hb)
theorem Kp.owns {B : Nat} {G : Nat → Prop} {w w' : World} (h : Kp B G w w') {base : Nat} {v : Value} {l : List Nat} (ho : Owns base w v l) : Owns base w' v l := by
  obtain ⟨F, hk, _, h2⟩ := h
  refine hk.owns ho (fun g hg => ?_)
  obtain ⟨cur, hc⟩ := rowBlock ho hg
  exact h2 g cur hc
theorem Kp.row {B : Nat} {G : Nat → Prop} {w w' : World} (h : Kp B G w w') {base T size n : Nat} {v : Value} {xs : List Value} (ho : w.ownsRow base T size v n xs) (hG : ∀ k, v.ownBlock = some k → G k) : w'.ownsRow base T size v n xs := by
  obtain ⟨F, hk, h1, _⟩ := h
  exact hk.owns ho (fun g hg hf => (h1 g hf).2 (hG g hg))
/-- Two models, beside each other. -/
def Duo (B : Nat) (G : Nat → Prop) (w : World) (m : Nat) (S : Mo) (d : Nat) (R : Mo) : Prop :=
  ∃ Wm Wd, ModelAt w m S Wm ∧ ModelAt w d R Wd ∧ (∀ x, Wd x → ¬ Wm x) ∧ (∀ x, Wm x → B ≤ x ∧ ¬ G x) ∧ (∀ x, Wd x → B ≤ x ∧ ¬ G x) ∧ ∀ x, G x → x < w.heap.size
theorem Duo.swap {B : Nat} {G : Nat → Prop} {w : World} {m : Nat} {S : Mo} {d : Nat} {R : Mo} (h : Duo B G w m S d R) : Duo B G w d R m S := by
  obtain ⟨Wm, Wd, h1, h2, h3, h4, h5, h6⟩ := h
  exact ⟨Wd, Wm, h2, h1, fun x hx hd => h3 x hd hx, h5, h4, h6⟩
theorem Duo.kept {B : Nat} {G : Nat → Prop} {w w' : World} {m : Nat} {S : Mo} {d : Nat} {R : Mo} (h : Duo B G w m S d R) (k : Keeps (fun _ => False) w w') : Duo B G w' m S d R := by
  obtain ⟨Wm, Wd, h1, h2, h3, h4, h5, h6⟩ := h
  exact ⟨Wm, Wd, h1.kept k, h2.kept k, h3, h4, h5, fun x hx => Nat.lt_of_lt_of_le (h6 x hx) k.size⟩
theorem Duo.less {B : Nat} {G G' : Nat → Prop} {w : World} {m : Nat} {S : Mo} {d : Nat} {R : Mo} (h : Duo B G' w m S d R) (hG : ∀ x, G x → G' x) : Duo B G w m S d R := by
  obtain ⟨Wm, Wd, h1, h2, h3, h4, h5, h6⟩ := h
  exact ⟨Wm, Wd, h1, h2, h3, fun x hx => ⟨(h4 x hx).1, fun hg => (h4 x hx).2 (hG x hg)⟩, fun x hx => ⟨(h5 x hx).1, fun hg => (h5 x hx).2 (hG x hg)⟩, fun x hx => h6 x (hG x hx)⟩
theorem Duo.below {B : Nat} {G : Nat → Prop} {w w' : World} {m : Nat} {S : Mo} {d : Nat} {R : Mo} (h : Duo B G w m S d R) (k : Below w.heap.size w w') : Duo B G w' m S d R := h.kept (Keeps.of_below k)
/-- A block more to keep: one that was made just now. -/
theorem Duo.also {B : Nat} {G : Nat → Prop} {w w' : World} {m : Nat} {S : Mo} {d : Nat} {R : Mo} (h : Duo B G w m S d R) (k : Keeps (fun _ => False) w w') (g : Nat → Prop) (h1 : ∀ x, g x → w.heap.size ≤ x) (h2 : ∀ x, g x → x < w'.heap.size) : Duo B (fun x => G x ∨ g x) w' m S d R := by
  obtain ⟨Wm, Wd, a1, a2, a3, a4, a5, a6⟩ := h
  refine ⟨Wm, Wd, a1.kept k, a2.kept k, a3, fun x hx => ⟨(a4 x hx).1, ?_⟩, fun x hx => ⟨(a5 x hx).1, ?_⟩, ?_⟩
  · rintro (hg | hg)
    · exact (a4 x hx).2 hg
    · have := a1.lt x hx; have := h1 x hg; omega
  · rintro (hg | hg)
    · exact (a5 x hx).2 hg
    · have := a2.lt x hx; have := h1 x hg; omega
  · rintro x (hg | hg)
    · exact Nat.lt_of_lt_of_le (a6 x hg) k.size
    · exact h2 x hg
theorem duo_do {B : Nat} {G : Nat → Prop} {w : World} {m : Nat} {S : Mo} {d : Nat} {R : Mo} (t : Tk) (dv : Value) (status done : Int) (h : Duo B G w m S d R) (hB : B ≤ w.heap.size) (hg : Good S) (hd : BytesAt w dv t.data) (hf : ∃ a k, dv = .slice a t.data.length k ∧ t.data.length ≤ k) (hl : t.data.length ≤ 140737488355328) :
    Calls Try.prog 13 #[.pointer (some ⟨m, 0, none⟩), .agg (t.cells dv), .int .i64 status, .int .i64 done] w fun e w' => ∃ r, e = .returned (.agg (replyCells t (doS S t status done).1.st (doS S t status done).1.dn r)) ∧ Owns w.heap.size w' r (doS S t status done).1.data ∧ Duo B G w' m (doS S t status done).2 d R ∧ Kp B G w w' := by
  obtain ⟨Wm, Wd, a1, a2, a3, a4, a5, a6⟩ := h
  refine (do_at m S Wm t dv status done w a1 hg hd hf hl).mono ?_
  rintro e w' ⟨r, W', rfl, ho, hm, hk, hn⟩
  refine ⟨r, rfl, ho, ⟨W', Wd, hm, ModelAt.beside a1 a2 hk a3, fun x hx hw => ?_, fun x hx => ?_, a5, fun x hx => Nat.lt_of_lt_of_le (a6 x hx) hk.size⟩, ⟨Wm, hk, a4, a1.noBytes⟩⟩
  · rcases hn x hw with h | h
    · exact a3 x hx h
    · have := a2.lt x hx; omega
  · rcases hn x hx with h | h
    · exact a4 x h
    · exact ⟨by omega, fun hG => by have := a6 x hG; omega⟩
theorem duo_vols {B : Nat} {G : Nat → Prop} {w : World} {m : Nat} {S : Mo} {d : Nat} {R : Mo} (h : Duo B G w m S d R) (hg : Good S) :
    Calls Try.prog 17 #[.pointer (some ⟨m, 0, none⟩)] w fun e w' => ∃ a n c, e = .returned (.slice a n c) ∧ w'.ownsRow w.heap.size 45 6 (.slice a n c) S.vols.length (volsV S.vols) ∧ Keeps (fun _ => False) w w' := by
  obtain ⟨Wm, Wd, a1, _⟩ := h
  refine (volumes_at m S Wm w a1 hg).mono ?_
  rintro e w' ⟨r, rfl, hr, hk⟩
  obtain ⟨a, n, c, rfl⟩ : ∃ a n c, r = .slice a n c := by
    rcases hr.2 with ⟨e, _⟩ | ⟨g, cap, cur, e, _⟩ <;> exact ⟨_, _, _, e⟩
  exact ⟨a, n, c, rfl, hr, hk⟩

set_option maxRecDepth 100000 in
set_option maxHeartbeats 6400000 in
/-- Two replies that say the same. -/
theorem same_any (b1 b2 : Nat) (t : Tk) (s k : Int) (a1 a2 : Option Addr) (n c1 c2 : Nat) (l : List Nat) (w : World) (h1 : Owns b1 w (.slice a1 n c1) l) (h2 : Owns b2 w (.slice a2 n c2) l) (hn : n ≤ l.length) (hn2 : l.length ≤ n) :
    Calls Try.prog 15 #[.agg (replyCells t s k (.slice a1 n c1)), .agg (replyCells t s k (.slice a2 n c2))] w fun e w' => e = .returned (.bool true) ∧ Below w.heap.size w w' := by
  have hmx : n ≤ 9223372036854775807 := by
    rcases h1.2 with ⟨_, h0⟩ | ⟨g, cap, cur, e, _, _, hnc, hcm, _⟩
    · omega
    · have : cap ≤ 9223372036854775807 := hcm
      omega
  have H1 := Lib.hid h1; clear h1
  have H2 := Lib.hid h2; clear h2
  obtain ⟨w2, hw2⟩ : ∃ w2, w2 = (w.alloc (.cells (replyCells t s k (.slice a1 n c1)) 35)).alloc (.cells (replyCells t s k (.slice a2 n c2)) 35) := ⟨_, rfl⟩
  have hb2 : Below w.heap.size w w2 := by rw [hw2]; exact (allocBelow w _).trans ((allocBelow _ _).mono (by simp))
  have hA : CellsAt w2 w.heap.size (replyCells t s k (.slice a1 n c1)) 35 := by rw [hw2]; exact CellsAt.later (CellsAt.new w _ 35) (allocBelow _ _)
  have hB : CellsAt w2 (w.heap.size + 1) (replyCells t s k (.slice a2 n c2)) 35 := by rw [hw2]; exact heap_at (by simp)
  have hz : w.heap.size + 2 ≤ w2.heap.size := by rw [hw2]; simp
  have ca : ∀ j, w2.cell? ⟨w.heap.size, j, none⟩ = (replyCells t s k (.slice a1 n c1))[j]? := fun j => hA.cell j
  have cb : ∀ j, w2.cell? ⟨w.heap.size + 1, j, none⟩ = (replyCells t s k (.slice a2 n c2))[j]? := fun j => hB.cell j
  have HB2 := Lib.hid hb2; clear hb2
  unfold replyCells at ca cb hw2 ⊢
  have HCA := Lib.hid ca
  have HCB := Lib.hid cb
  go_enter Try.func15, Try.ntmps15
  go_upto_region 1 with fail
  rw [← hw2]
  clear hw2 hA hB
  go_wp2_with fail
  go_loopw [5] (fun i wr => ∃ j : Nat, j ≤ n ∧ i = .int .i64 j ∧ Below w2.heap.size w2 wr) (fun i _ => n - (intOf i).toNat)
  case atStart => exact ⟨0, by omega, rfl, Below.refl _ _⟩
  case round =>
    obtain ⟨j, hj, rfl, hb⟩ := hrel
    have HB := Lib.hid hb; clear hb
    clear ca cb
    have c4 : wr.cell? ⟨w.heap.size, 4, none⟩ = some (.slice a1 n c1) := (HB.out.cell (p := ⟨w.heap.size, 4, none⟩) (by show w.heap.size < _; omega)).trans (HCA.out 4)
    have d4 : wr.cell? ⟨w.heap.size + 1, 4, none⟩ = some (.slice a2 n c2) := (HB.out.cell (p := ⟨w.heap.size + 1, 4, none⟩) (by show w.heap.size + 1 < _; omega)).trans (HCB.out 4)
    by_cases hlt : j < n
    · have hjn : (j : Int) < (n : Int) := by omega
      have hj0 : (0 : Int) ≤ (j : Int) := by omega
      have form : ∀ {b a c}, Owns b w (.slice a n c) l → ∃ g, a = some ⟨g, 0, none⟩ ∧ g < w.heap.size := by
        intro b a c h
        rcases h.2 with ⟨e, h0⟩ | ⟨g, cap, cur, e, _, hg, _⟩
        · omega
        · injection e with e1; exact ⟨g, e1, (Array.getElem?_eq_some_iff.1 hg).1⟩
      obtain ⟨g1, rfl, hg1⟩ := form H1.out
      obtain ⟨g2, rfl, hg2⟩ := form H2.out
      have x1 : wr.cell? ⟨g1, j, none⟩ = some (.int .u8 (l.getD j 0 : Nat)) := (HB.out.cell (p := ⟨g1, j, none⟩) (by show g1 < _; omega)).trans ((HB2.out.cell (p := ⟨g1, j, none⟩) hg1).trans (Owns.cellNo H1.out j (by omega)))
      have x2 : wr.cell? ⟨g2, j, none⟩ = some (.int .u8 (l.getD j 0 : Nat)) := (HB.out.cell (p := ⟨g2, j, none⟩) (by show g2 < _; omega)).trans ((HB2.out.cell (p := ⟨g2, j, none⟩) hg2).trans (Owns.cellNo H2.out j (by omega)))
      generalize l.getD j 0 = y at x1 x2
      clear form
      go_wp2_with fail
      go_quiet (fail)
      go_wp2
      exact ⟨⟨j + 1, by omega, by simp, below_drewN HB.out _⟩, by simp only [intOf]; omega⟩
    · obtain rfl : j = n := by omega
      have hkk : ¬ (j : Int) < (j : Int) := by omega
      go_wp2
      go_ret
      exact ⟨rfl, HB2.out.trans (HB.out.mono (by omega))⟩
end Go.Proofs.Ytmanldcohbegkaa
