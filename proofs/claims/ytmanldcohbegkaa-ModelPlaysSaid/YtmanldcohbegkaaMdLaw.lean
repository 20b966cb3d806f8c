/-
  The model: what the laws call, over a model that is somewhere.
-/
import Derived.Test.YtmanldcohbegkaaMdCopyM
import Derived.Test.YtmanldcohbegkaaMdAsk
namespace Go.Proofs.Ytmanldcohbegkaa
open Go.RowKit

theorem do_atz [Zs] (m : Nat) (S : Mo) (W : Nat → Prop) (t : Tk) (dv : Value) (status done : Int) (w : World) (h : ModelAt w m S W) (hg : Good S) (hd : BytesAt w dv t.data) (hf : ∃ a k, dv = .slice a t.data.length k ∧ t.data.length ≤ k) (hl : t.data.length ≤ 140737488355328) (hz : t.op = 3 → ∀ x, Zs.z x → x < w.heap.size) :
    Calls Try.prog 13 #[.pointer (some ⟨m, 0, none⟩), .agg (t.cells dv), .int .i64 status, .int .i64 done] w fun e w' => ∃ r W', e = .returned (.agg (replyCells t (doS S t status done).1.st (doS S t status done).1.dn r)) ∧ Owns w.heap.size w' r (doS S t status done).1.data ∧ ModelAt w' m (doS S t status done).2 W' ∧ Keeps W w w' ∧ ∀ k, W' k → W k ∨ w.heap.size ≤ k := by
  obtain ⟨rv, ps, h1, h2⟩ := h
  obtain ⟨a, k, rfl, hk⟩ := hf
  refine (do_any m rv ps S t a t.data.length k status done w h1 hg rfl hd hk (by omega) hz).mono ?_
  rintro e w' ⟨r, rv', ps', rfl, ho, hm, hkp, hnew⟩
  exact ⟨r, Own m rv' ps', rfl, ho, ⟨rv', ps', hm, fun _ => Iff.rfl⟩, hkp.mono (fun x _ hx => (h2 x).2 hx), fun k hk => (hnew k hk).imp (fun h => (h2 k).2 h) id⟩
theorem volumes_at [Zs] (m : Nat) (S : Mo) (W : Nat → Prop) (w : World) (h : ModelAt w m S W) (hg : Good S) :
    Calls Try.prog 17 #[.pointer (some ⟨m, 0, none⟩)] w fun e w' => ∃ r, e = .returned r ∧ w'.ownsRow w.heap.size 45 6 r S.vols.length (volsV S.vols) ∧ Keeps (fun _ => False) w w' := by
  obtain ⟨rv, ps, h1, h2⟩ := h
  exact volumes_any m rv ps S w h1 (by rw [h1.len]; exact hg.len)
theorem copy_at [Zs] (m : Nat) (S : Mo) (W : Nat → Prop) (w : World) (h : ModelAt w m S W) (hg : Good S) :
    Calls Try.prog 19 #[.pointer (some ⟨m, 0, none⟩)] w fun e w' => ∃ c W', e = .returned (.pointer (some ⟨c, 0, none⟩)) ∧ ModelAt w' c S W' ∧ Keeps (fun _ => False) w w' ∧ ∀ k, W' k → w.heap.size ≤ k := by
  obtain ⟨rv, ps, h1, h2⟩ := h
  refine (copy_any m rv ps S w h1 (by rw [h1.len]; exact hg.len)).mono ?_
  rintro e w' ⟨rv', ps', rfl, hm, hk, hn⟩
  exact ⟨_, Own w.heap.size rv' ps', rfl, ⟨rv', ps', hm, fun _ => Iff.rfl⟩, hk, hn⟩
theorem new_at [Zs] (w : World) : Calls Try.prog 10 #[] w fun e w' => ∃ m W', e = .returned (.pointer (some ⟨m, 0, none⟩)) ∧ ModelAt w' m ⟨[], 1⟩ W' ∧ Below w.heap.size w w' ∧ ∀ k, W' k → w.heap.size ≤ k := by
  refine (new_any w).mono ?_
  rintro e w' ⟨rfl, hm, hb⟩
  refine ⟨_, Own w.heap.size (.slice none 0 0) [], rfl, ⟨_, _, hm, fun _ => Iff.rfl⟩, hb, ?_⟩
  rintro x (rfl | e | ⟨q, hq, _⟩)
  · exact Nat.le_refl _
  · simp [Value.ownBlock] at e
  · simp at hq
/-- A model lies on where what it owns is kept. -/
theorem ModelAt.kept [Zs] {w w' : World} {m : Nat} {S : Mo} {W : Nat → Prop} (h : ModelAt w m S W) (k : Keeps (fun _ => False) w w') : ModelAt w' m S W := h.keeps k (fun _ _ h => h) (fun _ _ _ h => h)

set_option maxRecDepth 100000 in
set_option maxHeartbeats 3200000 in
theorem filled_any (w : World) : Calls Try.prog 21 #[.int .u8 7, .int .i64 64] w fun e w' => ∃ r, e = .returned r ∧ Owns w.heap.size w' r (List.replicate 64 7) ∧ Below w.heap.size w w' := by
  obtain ⟨W, hmk, hown0, hbel0, hsz0⟩ := make_bytes 64 w (by omega)
  have HO0 := Lib.hid hown0; clear hown0
  have HB0 := Lib.hid hbel0; clear hbel0
  have hmk2 : (Instr.makeSlice 28 (.int .i64 64) (.int .i64 64)).run Try.prog w = .ok (.slice (some ⟨w.heap.size, 0, none⟩) 64 64) W := hmk
  clear hmk
  go_enter Try.func21, Try.ntmps21
  go_wp2_with fail
  go_loopw [6] (fun i wr => ∃ k : Nat, k ≤ 64 ∧ i = .int .i64 k ∧ Owns w.heap.size wr (.slice (some ⟨w.heap.size, 0, none⟩) 64 64) (List.replicate k 7 ++ zeros (64 - k)) ∧ Below w.heap.size w wr) (fun i _ => 64 - (intOf i).toNat)
  case atStart => exact ⟨0, by omega, rfl, by simpa using HO0.out, HB0.out⟩
  case round =>
    obtain ⟨k, hk, rfl, hown, hbel⟩ := hrel
    have HO := Lib.hid hown; clear hown
    have HB := Lib.hid hbel; clear hbel
    by_cases hlt : k < 64
    · have hkn : (k : Int) < 64 := by omega
      have hk0 : (0 : Int) ≤ (k : Int) := by omega
      have hc := HO.out.cellNo k (by simp [zeros]; omega)
      have hf := HO.out.freeNo k
      go_wp2
      go_roundw
      case rel =>
        refine ⟨k + 1, by omega, by simp, ?_, HB.out.setCell (p := ⟨w.heap.size, k, none⟩) (Nat.le_refl _) _⟩
        have hset := HO.out.set k 7
        have e : (List.replicate k 7 ++ zeros (64 - k)).set k 7 = List.replicate (k + 1) 7 ++ zeros (64 - (k + 1)) := by
          rw [List.set_append_right _ _ (by simp), List.length_replicate, Nat.sub_self, show 64 - k = (64 - (k + 1)) + 1 by omega]
          simp only [zeros, List.replicate_succ, List.set_cons_zero]
          rw [← List.replicate_succ, List.replicate_succ']
          simp
        rw [e] at hset
        exact hset
      case measure => simp [intOf]; omega
    · obtain rfl : k = 64 := by omega
      go_wp2
      go_ret
      exact ⟨_, rfl, by simpa [zeros] using HO.out, HB.out⟩
/-- In most laws no block is named. -/
instance zs0 : Zs := ⟨fun _ => False⟩
theorem do_at (m : Nat) (S : Mo) (W : Nat → Prop) (t : Tk) (dv : Value) (status done : Int) (w : World) (h : ModelAt w m S W) (hg : Good S) (hd : BytesAt w dv t.data) (hf : ∃ a k, dv = .slice a t.data.length k ∧ t.data.length ≤ k) (hl : t.data.length ≤ 140737488355328) :
    Calls Try.prog 13 #[.pointer (some ⟨m, 0, none⟩), .agg (t.cells dv), .int .i64 status, .int .i64 done] w fun e w' => ∃ r W', e = .returned (.agg (replyCells t (doS S t status done).1.st (doS S t status done).1.dn r)) ∧ Owns w.heap.size w' r (doS S t status done).1.data ∧ ModelAt w' m (doS S t status done).2 W' ∧ Keeps W w w' ∧ ∀ k, W' k → W k ∨ w.heap.size ≤ k := do_atz m S W t dv status done w h hg hd hf hl (fun _ _ h => False.elim h)
end Go.Proofs.Ytmanldcohbegkaa
