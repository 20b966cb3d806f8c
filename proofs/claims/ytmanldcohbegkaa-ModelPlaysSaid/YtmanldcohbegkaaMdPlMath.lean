/-
  ModelPlays: what stays of the two models where what was handed in and told is written over.
-/
import Derived.Test.YtmanldcohbegkaaRfDo
import Derived.Test.YtmanldcohbegkaaMdDuo
namespace Go.Proofs.Ytmanldcohbegkaa
open Go.RowKit

/-- A model whose bytes lie outside z. -/
def RawAt (z : Nat → Prop) (w : World) (m : Nat) (S : Mo) (W : Nat → Prop) : Prop := ∃ rv ps, CellsAt w m (S.cells rv) 53 ∧ w.ownsRow 0 63 1 rv ps.length (ptrs ps) ∧ ps.length = S.vols.length ∧
  (∀ (i : Nat) (p : Nat × Nat) (v : Vo), ps[i]? = some p → S.vols[i]? = some v → CellsAt w p.1 (v.cells p.2) 66 ∧ ∃ es : List (Int × (Value × List Nat)), MapIs w p.2 (es.map fun e => (e.1, e.2.1)) ∧ v.bl = es.map (fun e => (e.1, e.2.2)) ∧ ∀ e ∈ es, Owns 0 w e.2.1 e.2.2 ∧ e.2.2.length = 64 ∧ ∀ g, e.2.1.ownBlock = some g → ¬ z g) ∧
  (ps.map (·.1)).Nodup ∧ (ps.map (·.2)).Nodup ∧ ∀ k, W k ↔ Own m rv ps k
theorem raw_of [Zs] {w : World} {m : Nat} {S : Mo} {W : Nat → Prop} (h : ModelAt w m S W) : RawAt Zs.z w m S W := by
  obtain ⟨rv, ps, h1, h2⟩ := h
  refine ⟨rv, ps, h1.head, h1.row, h1.len, fun i p v hp hv => ?_, h1.ap1, h1.ap2, h2⟩
  have hvo := h1.vol i p v hp hv
  obtain ⟨es, hm, he, hd⟩ := hvo.map
  exact ⟨hvo.str, es, hm, he, hd⟩
theorem of_raw [Zs] {w : World} {m : Nat} {S : Mo} {W : Nat → Prop} (h : RawAt Zs.z w m S W) : ModelAt w m S W := by
  obtain ⟨rv, ps, h1, h2, h3, h4, h5, h6, h7⟩ := h
  refine ⟨rv, ps, ⟨h1, h2, h3, fun i p v hp hv => ?_, h5, h6⟩, h7⟩
  obtain ⟨k1, es, k2, k3, k4⟩ := h4 i p v hp hv
  exact ⟨k1, es, k2, k3, k4⟩
/-- Bytes that lie below all that is named. -/
theorem RawAt.named {z y : Nat → Prop} {w : World} {m : Nat} {S : Mo} {W : Nat → Prop} (h : RawAt y w m S W) (hz : ∀ x, z x → w.heap.size ≤ x) : RawAt z w m S W := by
  obtain ⟨rv, ps, h1, h2, h3, h4, h5, h6, h7⟩ := h
  refine ⟨rv, ps, h1, h2, h3, fun i p v hp hv => ?_, h5, h6, h7⟩
  obtain ⟨k1, es, k2, k3, k4⟩ := h4 i p v hp hv
  refine ⟨k1, es, k2, k3, fun e hee => ?_⟩
  obtain ⟨ho, hl, _⟩ := k4 e hee
  exact ⟨ho, hl, fun g hg hzg => by have := (Owns.from ho g hg).2; have := hz g hzg; omega⟩
/-- What is named is written over: the model stays. -/
theorem RawAt.touch {z : Nat → Prop} {F : Nat → Prop} {w w' : World} {m : Nat} {S : Mo} {W : Nat → Prop} (h : RawAt z w m S W) (k : Keeps F w w') (hF : ∀ x, F x → z x) (hW : ∀ x, W x → ¬ F x) : RawAt (fun _ => False) w' m S W := by
  obtain ⟨rv, ps, h1, h2, h3, h4, h5, h6, h7⟩ := h
  have hO : ∀ x, Own m rv ps x → ¬ F x := fun x hx => hW x ((h7 x).2 hx)
  refine ⟨rv, ps, h1.keeps k (hO m (.inl rfl)), k.owns h2 (fun g hg => hO g (.inr (.inl hg))), h3, fun i p v hp hv => ?_, h5, h6, h7⟩
  have hpm := List.mem_of_getElem? hp
  obtain ⟨k1, es, k2, k3, k4⟩ := h4 i p v hp hv
  refine ⟨k1.keeps k (hO _ (.inr (.inr ⟨p, hpm, .inl rfl⟩))), es, k2.keeps k (hO _ (.inr (.inr ⟨p, hpm, .inr rfl⟩))), k3, fun e hee => ?_⟩
  obtain ⟨ho, hl, hn⟩ := k4 e hee
  exact ⟨k.owns ho (fun g hg hf => hn g hg (hF g hf)), hl, fun _ _ hz => hz⟩
theorem RawAt.keeps {z F : Nat → Prop} {w w' : World} {m : Nat} {S : Mo} {W : Nat → Prop} (h : RawAt z w m S W) (k : Keeps F w w') (ho : ∀ x, W x → ¬ F x) (hF : ∀ b cur, w.heap[b]? = some (.cells cur 5 (0, 0)) → ¬ F b) : RawAt z w' m S W := @raw_of ⟨z⟩ _ _ _ _ (@ModelAt.keeps ⟨z⟩ F w w' m S W (@of_raw ⟨z⟩ _ _ _ _ h) k ho hF)
theorem RawAt.kept {z : Nat → Prop} {w w' : World} {m : Nat} {S : Mo} {W : Nat → Prop} (h : RawAt z w m S W) (k : Keeps (fun _ => False) w w') : RawAt z w' m S W := h.keeps k (fun _ _ h => h) (fun _ _ _ h => h)
theorem RawAt.lt {z : Nat → Prop} {w : World} {m : Nat} {S : Mo} {W : Nat → Prop} (h : RawAt z w m S W) (k : Nat) (hk : W k) : k < w.heap.size := @ModelAt.lt ⟨z⟩ w m S W (@of_raw ⟨z⟩ _ _ _ _ h) k hk
theorem RawAt.noBytes {z : Nat → Prop} {w : World} {m : Nat} {S : Mo} {W : Nat → Prop} (h : RawAt z w m S W) (k : Nat) (cur : Array Value) (hk : w.heap[k]? = some (.cells cur 5 (0, 0))) : ¬ W k := @ModelAt.noBytes ⟨z⟩ w m S W (@of_raw ⟨z⟩ _ _ _ _ h) k cur hk
theorem raw_do (z : Nat → Prop) (m : Nat) (S : Mo) (W : Nat → Prop) (t : Tk) (dv : Value) (status done : Int) (w : World) (h : RawAt z w m S W) (hg : Good S) (hd : BytesAt w dv t.data) (hf : ∃ a k, dv = .slice a t.data.length k ∧ t.data.length ≤ k) (hl : t.data.length ≤ 140737488355328) (hz : t.op = 3 → ∀ x, z x → x < w.heap.size) :
    Calls Try.prog 13 #[.pointer (some ⟨m, 0, none⟩), .agg (t.cells dv), .int .i64 status, .int .i64 done] w fun e w' => ∃ r W', e = .returned (.agg (replyCells t (doS S t status done).1.st (doS S t status done).1.dn r)) ∧ Owns w.heap.size w' r (doS S t status done).1.data ∧ RawAt z w' m (doS S t status done).2 W' ∧ Keeps W w w' ∧ ∀ k, W' k → W k ∨ w.heap.size ≤ k := by
  refine (@do_atz ⟨z⟩ m S W t dv status done w (@of_raw ⟨z⟩ _ _ _ _ h) hg hd hf hl hz).mono ?_
  rintro e w' ⟨r, W', h1, h2, h3, h4⟩
  exact ⟨r, W', h1, h2, @raw_of ⟨z⟩ _ _ _ _ h3, h4⟩
theorem raw_vols (z : Nat → Prop) (m : Nat) (S : Mo) (W : Nat → Prop) (w : World) (h : RawAt z w m S W) (hg : Good S) :
    Calls Try.prog 17 #[.pointer (some ⟨m, 0, none⟩)] w fun e w' => ∃ r, e = .returned r ∧ w'.ownsRow w.heap.size 45 6 r S.vols.length (volsV S.vols) ∧ Keeps (fun _ => False) w w' := @volumes_at ⟨z⟩ m S W w (@of_raw ⟨z⟩ _ _ _ _ h) hg
theorem own_room {base : Nat} {w : World} {a : Option Addr} {n c : Nat} {l : List Nat} (h : Owns base w (.slice a n c) l) : n ≤ c := by
  have hn := h.bytes.length
  rcases h.2 with ⟨e, h0⟩ | ⟨g, cap, cur, e, _, _, hnc, _⟩
  · injection e with e1 e2 e3; omega
  · injection e with e1 e2 e3; omega
/-- What a write told bears no bytes. -/
theorem doS_write_data (S : Mo) (t : Tk) (st dn : Int) (h : t.op = 3) : (doS S t st dn).1.data = [] := by
  rw [doS_form S t st dn _ _ rfl rfl]
  split
  · rfl
  · rw [if_pos (.inl h)]
end Go.Proofs.Ytmanldcohbegkaa
