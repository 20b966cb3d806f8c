/-
  CrcSums: the law's walk.
-/
import Derived.Test.YthocdlihhfhbeaaArgs
namespace Go.Proofs.Ythocdlihhfhbeaa
open Go.RowKit

set_option maxRecDepth 100000 in
set_option maxHeartbeats 1600000 in
theorem sums_any (s : Nat) (hs : s < 4294967296) (v : Value) (l : List Nat) (w : World) (hd : BytesAt w v l) (hB : Crc.Bytes l) (hl : l.length ≤ 9223372036854775807) :
    Calls Try.prog 3 #[v, .int .u32 (s : Nat)] w fun e w' => e = .returned (.bool true) ∧ Below w.heap.size w w' := by
  have HA := Lib.hid hd.lies
  have HD := Lib.hid hd; clear hd
  have HBy := Lib.hid hB; clear hB
  have hnot : ∀ (x : Bool) (w : World), (Op.unary .not (.bool x)).run Try.prog w = .ok (.bool (!x)) w := fun _ _ => rfl
  go_enter Try.func3, Try.ntmps3
  go_wp2_with fail
  refine (new_any w).mono ?_
  rintro e w1 ⟨rfl, ht, hb, hz⟩
  have HT := Lib.hid ht; clear ht
  have HB := Lib.hid hb; clear hb
  have hz1 : w.heap.size < w1.heap.size := by omega
  clear hz
  go_wp2_with fail
  refine (known_any _ w.heap.size false w1 HT.out hz1 (Nat.le_refl _)).mono ?_
  rintro e w2 ⟨rfl, ht, hb⟩
  have HT2 := Lib.hid ht; clear ht
  have HB2 := Lib.hid (HB.out.trans hb); clear hb
  go_wp2_with fail
  refine (sum_any _ true _ l _ HT2.out (HD.out.below HB2.out HA.out) HBy.out hl (HA.out.avoids (Nat.le_refl _))).mono ?_
  rintro e w3 ⟨rfl, ht, ho, _⟩
  have HT3 := Lib.hid ht; clear ht
  have HB3 := Lib.hid (HB2.out.trans (ho.below (Nat.le_refl _))); clear ho
  go_wp2_with fail
  refine (refSum_any _ l _ (HD.out.below HB3.out HA.out) HBy.out hl).mono ?_
  rintro e w4 ⟨rfl, rfl⟩
  go_wp2_with fail
  refine (more_any _ true s hs _ l _ HT3.out (HD.out.below HB3.out HA.out) HBy.out hl (HA.out.avoids (Nat.le_refl _))).mono ?_
  rintro e w4 ⟨rfl, ht, ho, _⟩
  have HB4 := Lib.hid (HB3.out.trans (ho.below (Nat.le_refl _))); clear ho ht
  go_wp2_with fail
  refine (refMore_any s hs _ l _ (HD.out.below HB4.out HA.out) HBy.out hl).mono ?_
  rintro e w5 ⟨rfl, rfl⟩
  go_wp2
  go_ret
  exact ⟨rfl, HB4.out⟩
end Go.Proofs.Ythocdlihhfhbeaa
