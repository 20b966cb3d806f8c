/-
  CrcParts: the law's walk.
-/
import Derived.Test.YthocdlihhfhbeaaBytes
namespace Go.Proofs.Ythocdlihhfhbeaa
open Go.RowKit

theorem Table.grown {w w' : World} {b : Nat} {d : Bool} {row : Option Nat} (h : Table w b d) (hg : w.grownBy w' row) (hb : b < w.heap.size) (hne : some b ≠ row) : Table w' b d := by
  have hbl := hg.block b hb hne
  have e : ∀ j, w'.cell? ⟨b, j, none⟩ = w.cell? ⟨b, j, none⟩ := fun j => World.cell?_of_block (a := ⟨b, j, none⟩) hbl
  have f : ∀ j, w'.frozen? ⟨b, j, none⟩ = w.frozen? ⟨b, j, none⟩ := fun j => World.frozen?_of_block (a := ⟨b, j, none⟩) hbl
  exact ⟨(e 0).trans h.once, (e 1).trans h.state, fun i hi => by rw [e]; exact h.words.1 i hi, fun i hi => by rw [e]; exact h.words.2.1 i hi, fun j => by rw [f]; exact h.words.2.2 j⟩
theorem Table.lt {w : World} {b : Nat} {d : Bool} (h : Table w b d) : b < w.heap.size := block_lt h.once

set_option maxRecDepth 100000 in
set_option maxHeartbeats 1600000 in
theorem parts_any (v0 v1 : Value) (l0 l1 : List Nat) (w : World) (hd0 : BytesAt w v0 l0) (hB0 : Crc.Bytes l0) (hd1 : BytesAt w v1 l1) (hB1 : Crc.Bytes l1) (hl : l0.length + l1.length ≤ 140737488355328) :
    Calls Try.prog 4 #[v0, v1] w fun e w' => e = .returned (.bool true) ∧ Below w.heap.size w w' := by
  have HA0 := Lib.hid hd0.lies
  have HD0 := Lib.hid hd0; clear hd0
  have HA1 := Lib.hid hd1.lies
  have HD1 := Lib.hid hd1; clear hd1
  have hnot : ∀ (x : Bool) (w : World), (Op.unary .not (.bool x)).run Try.prog w = .ok (.bool (!x)) w := fun _ _ => rfl
  go_enter Try.func4, Try.ntmps4
  go_wp2_with fail
  refine (new_any w).mono ?_
  rintro e w1 ⟨rfl, ht, hb, hz⟩
  have HT := Lib.hid ht; clear ht
  have HB := Lib.hid hb; clear hb
  have hz1 : w.heap.size < w1.heap.size := by omega
  clear hz
  go_wp2_with fail
  refine (known_any _ w.heap.size false w1 HT.out hz1 (Nat.le_refl _)).mono ?_
  rintro e w2 ⟨rfl, ht, hb⟩
  have HT2 := Lib.hid ht; clear ht
  have HB2 := Lib.hid (HB.out.trans hb); clear hb
  have hz2 := HT2.out.lt
  have own0 := Lib.hid (Owns.nil (w.heap.size + 1) w2)
  go_wp2_with (first | (at_builtin; refine wpList_append_bytes rfl (.tmp 11) (.tmp 12) rfl (w.heap.size + 1) (.slice none 0 0) [] rfl own0.out _ l0 rfl (HD0.out.below HB2.out HA0.out) (by simp; omega) (by omega) ?_; intro v2 w3 hown hgrow; rw [List.nil_append] at hown; have HO3 := Lib.hid hown; clear hown; have HB3 := Lib.hid (HB2.out.grown hgrow (by omega) (fun k hk => by simp [Value.ownBlock] at hk)); have HT3 := Lib.hid (HT2.out.grown hgrow hz2 (by simp [Value.ownBlock])); have hz3 := HT3.out.lt; clear hgrow) | (at_builtin; refine wpList_append_bytes rfl (.tmp 14) (.tmp 15) rfl (w.heap.size + 1) v2 l0 rfl HO3.out _ l1 rfl (HD1.out.below HB3.out HA1.out) (by omega) (by omega) ?_; intro v3 w4 hown hgrow; have HO4 := Lib.hid hown; clear hown; have HB4 := Lib.hid (HB3.out.grown hgrow (by omega) (fun k hk => by have := (HO3.out.from k hk).1; omega)); have HT4 := Lib.hid (HT3.out.grown hgrow hz3 (fun hk => by have := (HO3.out.from _ hk.symm).1; omega)); clear hgrow))
  refine (sum_any _ true _ l0 _ HT4.out (HD0.out.below HB4.out HA0.out) hB0 (by omega) (HA0.out.avoids (Nat.le_refl _))).mono ?_
  rintro e w5 ⟨rfl, _, _, hsame⟩
  obtain rfl := hsame rfl
  clear hsame
  go_wp2_with fail
  refine (more_any _ true (Crc.more 0 l0) (Crc.more_lt _ _) _ l1 _ HT4.out (HD1.out.below HB4.out HA1.out) hB1 (by omega) (HA1.out.avoids (Nat.le_refl _))).mono ?_
  rintro e w5 ⟨rfl, _, _, hsame⟩
  obtain rfl := hsame rfl
  clear hsame
  go_wp2_with fail
  refine (sum_any _ true _ (l0 ++ l1) _ HT4.out HO4.out.bytes (fun b hb => (List.mem_append.1 hb).elim (hB0 b) (hB1 b)) (by simp; omega) (HO4.out.avoids (by omega))).mono ?_
  rintro e w5 ⟨rfl, _, _, hsame⟩
  obtain rfl := hsame rfl
  clear hsame
  rw [Crc.more_append 0 l0 l1 (by omega) hB0]
  go_wp2
  go_ret
  exact ⟨rfl, HB4.out⟩
end Go.Proofs.Ythocdlihhfhbeaa
