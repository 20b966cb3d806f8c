/-
  CrcErrors: the law's walk.
-/
import Derived.Test.YthocdlihhfhbeaaCrcLinWalk
import Derived.Test.YthocdlihhfhbeaaCrcErrMath
namespace Go.Proofs.Ythocdlihhfhbeaa
open Go.RowKit

theorem bit_walk (c k : Nat) : (((c : Int) / 2 ^ k).tmod 2 == 1) = c.testBit k := by
  have e : (c : Int) / 2 ^ k = ((c / 2 ^ k : Nat) : Int) := by simp
  rw [e, Nat.testBit_eq_decide_div_mod_eq]
  generalize c / 2 ^ k = d
  have e2 : (d : Int).tmod 2 = ((d % 2 : Nat) : Int) := by simp [Int.tmod_eq_emod_of_nonneg]
  rw [e2]
  by_cases h : d % 2 = 1
  · rw [h]; rfl
  · simp only [h, decide_false]
    rw [beq_eq_false_iff_ne]; omega
theorem Owns.form {base : Nat} {w : World} {v : Value} {l : List Nat} (h : Owns base w v l) (h0 : 0 < l.length) : ∃ g cap, v = .slice (some ⟨g, 0, none⟩) l.length cap := by
  obtain ⟨_, h2⟩ := h
  rcases h2 with ⟨rfl, hn⟩ | ⟨g, cap, cur, rfl, _⟩
  · omega
  · exact ⟨g, cap, rfl⟩
theorem Owns.cell {base : Nat} {w : World} {g n cap : Nat} {l : List Nat} (h : Owns base w (.slice (some ⟨g, 0, none⟩) n cap) l) (j : Nat) (hj : j < l.length) : w.cell? ⟨g, j, none⟩ = some (.int .u8 (l.getD j 0 : Nat)) := by
  have hn := h.bytes.length
  subst hn
  exact (World.ownsRow.cellAt h j (by omega)).trans (cellsOf_get l j hj)
theorem Owns.free {base : Nat} {w : World} {g n cap : Nat} {l : List Nat} (h : Owns base w (.slice (some ⟨g, 0, none⟩) n cap) l) (j : Nat) : w.frozen? ⟨g, j, none⟩ = false := by
  have hn := h.bytes.length
  subst hn
  exact World.ownsRow.frozenAt h j
theorem Owns.set {base : Nat} {w : World} {g n cap : Nat} {l : List Nat} (h : Owns base w (.slice (some ⟨g, 0, none⟩) n cap) l) (j y : Nat) : Owns base (w.setCell ⟨g, j, none⟩ (.int .u8 (y : Int))) (.slice (some ⟨g, 0, none⟩) n cap) (l.set j y) := by
  have hn := h.bytes.length
  subst hn
  have := World.ownsRow.stored h j (.int .u8 (y : Int))
  unfold Owns
  rw [List.length_set]
  have e : cellsOf (l.set j y) = (cellsOf l).set j (.int .u8 (y : Int)) := by simp [cellsOf]
  rw [e]
  exact this.1
theorem Table.setOther {w : World} {b : Nat} {d : Bool} (h : Table w b d) {a : Addr} (ha : a.block ≠ b) (u : Value) : Table (w.setCell a u) b d := by
  have e : ∀ j, (w.setCell a u).cell? ⟨b, j, none⟩ = w.cell? ⟨b, j, none⟩ := fun j => World.cell?_setCell_other _ _ _ _ (fun h' => ha (by rw [h']))
  have f : ∀ j, (w.setCell a u).frozen? ⟨b, j, none⟩ = w.frozen? ⟨b, j, none⟩ := fun j => by simp
  exact ⟨(e 0).trans h.once, (e 1).trans h.state, fun i hi => by rw [e]; exact h.words.1 i hi, fun i hi => by rw [e]; exact h.words.2.1 i hi, fun j => by rw [f]; exact h.words.2.2 j⟩
theorem xor_pow_walk (x r y : Nat) (r8 : r < 8) (ey : bits .xor .u8 (x : Int) ((2 ^ r : Nat) : Int) = (y : Int)) : bits .xor .u8 (x : Int) ((2 : Int) ^ r % 256) = (y : Int) := by
  rw [← ey]
  have h2 : 2 ^ r < 2 ^ 8 := Nat.pow_lt_pow_right (by omega) r8
  have e : ((2 : Int) ^ r % 256) = ((2 ^ r : Nat) : Int) := by
    have h3 : ((2 ^ r : Nat) : Int) = (2 : Int) ^ r := by simp
    rw [← h3]
    generalize 2 ^ r = d at *
    omega
  rw [e]
theorem tmod_bounds (x : Int) (n : Nat) (h : 0 < n) : -(n : Int) < x.tmod n ∧ x.tmod n < n := by
  have e := Int.natAbs_tmod x n
  have : x.natAbs % (n : Int).natAbs < n := by
    rw [Int.natAbs_natCast]; exact Nat.mod_lt _ h
  omega

set_option maxRecDepth 100000 in
set_option maxHeartbeats 1600000 in
theorem errors_any (a0 : Option Addr) (n0 c0 : Nat) (l : List Nat) (at_ : Int) (change : Nat) (w : World) (hd : BytesAt w (.slice a0 n0 c0) l) (hB : Crc.Bytes l) (hl0 : n0 ≤ 140737488351232) (hch : change < 4294967296) :
    Calls Try.prog 5 #[.slice a0 n0 c0, .int .i64 at_, .int .u32 (change : Nat)] w fun e w' => e = .returned (.bool true) ∧ Below w.heap.size w w' := by
  have hlen := Lib.hid hd.length
  have HA := Lib.hid hd.lies
  have HD := Lib.hid hd; clear hd
  have hnot : ∀ (x : Bool) (w : World), (Op.unary .not (.bool x)).run Try.prog w = .ok (.bool (!x)) w := fun _ _ => rfl
  by_cases hz0 : n0 = 0
  · subst hz0
    go_enter Try.func5, Try.ntmps5
    go_wp2_with fail
    refine (new_any w).mono ?_
    rintro e w1 ⟨rfl, ht, hb, hz⟩
    have HT := Lib.hid ht; clear ht
    have HB := Lib.hid hb; clear hb
    have hz1 : w.heap.size < w1.heap.size := by omega
    clear hz
    go_wp2_with fail
    refine (known_any _ w.heap.size false w1 HT.out hz1 (Nat.le_refl _)).mono ?_
    rintro e w2 ⟨rfl, ht, hb⟩
    have HB2 := Lib.hid (HB.out.trans hb); clear hb ht
    go_wp2
    go_ret
    exact ⟨rfl, HB2.out⟩
  · by_cases hz1 : change = 0
    · subst hz1
      have t0 : ((n0 : Int) == 0) = false := by rw [beq_eq_false_iff_ne]; omega
      go_enter Try.func5, Try.ntmps5
      go_wp2_with fail
      refine (new_any w).mono ?_
      rintro e w1 ⟨rfl, ht, hb, hz⟩
      have HT := Lib.hid ht; clear ht
      have HB := Lib.hid hb; clear hb
      have hz1 : w.heap.size < w1.heap.size := by omega
      clear hz
      go_wp2_with fail
      refine (known_any _ w.heap.size false w1 HT.out hz1 (Nat.le_refl _)).mono ?_
      rintro e w2 ⟨rfl, ht, hb⟩
      have HB2 := Lib.hid (HB.out.trans hb); clear hb ht
      go_wp2
      go_ret
      exact ⟨rfl, HB2.out⟩
    · have t0 : ((n0 : Int) == 0) = false := by rw [beq_eq_false_iff_ne]; omega
      have t1 : ((change : Int) == 0) = false := by rw [beq_eq_false_iff_ne]; omega
      go_enter Try.func5, Try.ntmps5
      go_wp2_with fail
      refine (new_any w).mono ?_
      rintro e w1 ⟨rfl, ht, hb, hz⟩
      have HT := Lib.hid ht; clear ht
      have HB := Lib.hid hb; clear hb
      have hz1 : w.heap.size < w1.heap.size := by omega
      clear hz
      go_wp2_with fail
      refine (known_any _ w.heap.size false w1 HT.out hz1 (Nat.le_refl _)).mono ?_
      rintro e w2 ⟨rfl, ht, hb⟩
      have HT2 := Lib.hid ht; clear ht
      have HB2 := Lib.hid (HB.out.trans hb); clear hb
      have hz2 := HT2.out.lt
      have own0 := Lib.hid (Owns.nil (w.heap.size + 1) w2)
      go_upto_if 33 with (at_builtin; refine wpList_append_bytes rfl (.tmp 24) (.tmp 25) rfl (w.heap.size + 1) (.slice none 0 0) [] rfl own0.out _ l rfl (HD.out.below HB2.out HA.out) (by rw [hlen.out]; simp; omega) (by omega) ?_; intro v2 w3 hown hgrow; rw [List.nil_append] at hown; have HO3 := Lib.hid hown; clear hown; have HB3 := Lib.hid (HB2.out.grown hgrow (by omega) (fun k hk => by simp [Value.ownBlock] at hk)); have HT3 := Lib.hid (HT2.out.grown hgrow hz2 (by simp [Value.ownBlock])); have hz3 := HT3.out.lt; clear hgrow)
      have q1 := tmod_bounds at_ (8 * n0) (by omega)
      rw [show ((8 * n0 : Nat) : Int) = 8 * (n0 : Int) by omega] at q1
      obtain ⟨q1, q2⟩ := q1
      generalize at_.tmod (8 * (n0 : Int)) = q at *
      go_cut [9] (fun v wx => ∃ bit : Nat, v = .int .i64 bit ∧ bit < 8 * n0 ∧ wx = w3)
      case first =>
        go_wp2_with fail
        · go_meet
          exact ⟨(q + 8 * n0).toNat, by congr 1; omega, by omega, rfl⟩
        · go_meet
          exact ⟨q.toNat, by congr 1; omega, by omega, rfl⟩
      case rest =>
        obtain ⟨bit, rfl, hbit, rfl⟩ := hcut
        obtain ⟨g, cap, rfl⟩ := HO3.out.form (by rw [hlen.out]; omega)
        have hgB' := (HO3.out.from g rfl).1
        have hgB : w.heap.size ≤ (⟨g, 0, none⟩ : Addr).block := by simp; omega
        rw [hlen.out] at HO3 ⊢
        go_wp2_with fail
        go_loopw [10, 11] (fun tv i wr => ∃ (k : Nat) (lk : List Nat) (t : Bool), k ≤ 32 ∧ i = .int .i64 k ∧ tv = .bool t ∧ Owns (w.heap.size + 1) wr (.slice (some ⟨g, 0, none⟩) n0 cap) lk ∧ Below w.heap.size w wr ∧ Table wr w.heap.size true ∧ Crc.Turned l lk bit k change t) (fun _ i _ => 32 - (intOf i).toNat)
        case atStart => exact ⟨0, l, false, by omega, rfl, rfl, HO3.out, HB3.out, HT3.out, Crc.Turned.zero _ _ _ hB⟩
        case round =>
          obtain ⟨k, lk, t, hk, rfl, rfl, hown, hbel, htab, htn⟩ := hrel
          have HO := Lib.hid hown; clear hown
          have HB := Lib.hid hbel; clear hbel
          have HT := Lib.hid htab; clear htab
          have HN := Lib.hid htn; clear htn
          by_cases hlt : k < 32
          · by_cases hn : bit + k < 8 * n0
            · have hn' : (bit : Int) + (k : Int) < 8 * (n0 : Int) := by omega
              have tb := bit_walk change k
              have HNk := HN.out
              by_cases hb : change.testBit k = true
              · rw [hb] at tb
                have HBt := Lib.hid hb; clear hb
                go_wp2_with fail
                obtain ⟨W, hW⟩ : ∃ W, W = wr.drew := ⟨_, rfl⟩
                have HO := Lib.hid (show Owns (w.heap.size + 1) W (.slice (some ⟨g, 0, none⟩) n0 cap) lk by rw [hW]; exact HO.out.drew)
                have HB := Lib.hid (show Below w.heap.size w W by rw [hW]; exact HB.out.drew)
                have HT := Lib.hid (show Table W w.heap.size true by rw [hW]; exact HT.out.drew)
                have hi : (bit + k) / 8 < lk.length := by rw [HNk.len, hlen.out]; omega
                have x0 := HO.out.cell ((bit + k) / 8) hi
                have f0 := HO.out.free ((bit + k) / 8)
                have g0 : (bit + k) / 8 < n0 := by omega
                have ty := Crc.turn_byte HNk.bytes (bit + k)
                have ey := u8_xor_nat (lk.getD ((bit + k) / 8) 0) (2 ^ ((bit + k) % 8)) (Crc.getD_lt HNk.bytes _) (Crc.pow_byte _)
                have e0 : (bit : Int) + (k : Int) = ((bit + k : Nat) : Int) := by omega
                have e1 : ((bit + k : Nat) : Int) / 8 = (((bit + k) / 8 : Nat) : Int) := by omega
                have e2 : ((bit + k : Nat) : Int) % 8 = (((bit + k) % 8 : Nat) : Int) := by omega
                have r8 : (bit + k) % 8 < 8 := by omega
                have HTu : Hid (Crc.turn lk (bit + k) = lk.set ((bit + k) / 8) (lk.getD ((bit + k) / 8) 0 ^^^ 2 ^ ((bit + k) % 8))) := rfl
                have hnb : bit + k ≤ 9223372036854775807 := by omega
                clear hn hn' HNk
                generalize lk.getD ((bit + k) / 8) 0 ^^^ 2 ^ ((bit + k) % 8) = y at *
                generalize lk.getD ((bit + k) / 8) 0 = x at *
                generalize (bit + k) / 8 = q at *
                generalize (bit + k) % 8 = r at *
                generalize hNe : bit + k = N at *
                have HNe := Lib.hid hNe; clear hNe
                have wq : IntKind.i64.wrap (q : Int) = (q : Int) := IntWalk.i64_in _ (by omega)
                have wr8 : IntKind.i64.wrap (r : Int) = (r : Int) := IntWalk.i64_in _ (by omega)
                have e3 : (N : Int).tmod 8 = (r : Int) := by rw [Int.tmod_eq_emod_of_nonneg (Int.natCast_nonneg _)]; exact e2
                have ey' := xor_pow_walk x r y r8 ey
                have HEY := Lib.hid ey'; clear ey' ey
                refine still_tail 13 (by kernel_rfl) (by kernel_rfl) W hW ?_
                clear hW
                simp only [List.take_succ_cons, List.take_zero, List.drop_succ_cons, List.drop_zero]
                repeat still_step
                refine wpStill_nil ?_
                go_wp2
                go_roundw
                case rel =>
                  rw [HEY.out]
                  refine ⟨k + 1, lk.set q y, true, by omega, by go_num, rfl, HO.out.set q y, HB.out.setCell hgB _, HT.out.setOther (by simp; omega) _, ?_⟩
                  rw [← HTu.out, ← HNe.out]
                  exact HN.out.turn (by rw [hlen.out]; have := HNe.out; omega) HBt.out
                case measure => simp [intOf]; omega
              · rw [Bool.not_eq_true] at hb
                rw [hb] at tb
                have HBt := Lib.hid hb; clear hb HNk
                go_wp2
                go_roundw
                case rel => exact ⟨k + 1, lk, t, by omega, by go_num, rfl, HO.out, HB.out, HT.out, HN.out.skip (.inr HBt.out)⟩
                case measure => simp [intOf]; omega
            · have hn' : ¬ (bit : Int) + (k : Int) < 8 * (n0 : Int) := by omega
              go_wp2
              go_roundw
              case rel => exact ⟨k + 1, lk, t, by omega, by go_num, rfl, HO.out, HB.out, HT.out, HN.out.skip (.inl (by rw [hlen.out]; omega))⟩
              case measure => simp [intOf]; omega
          · obtain rfl : k = 32 := by omega
            cases t with
            | false =>
              go_wp2
              go_ret
              exact ⟨rfl, HB.out⟩
            | true =>
              have HU := Lib.hid (HN.out.unlike hB (by rw [hlen.out]; exact hbit))
              have hsb := HT.out.lt
              go_wp2_with fail
              refine (sum_any _ true _ l _ HT.out (HD.out.below HB.out HA.out) hB (by rw [hlen.out]; omega) (HA.out.avoids (Nat.le_refl _))).mono ?_
              rintro e w5 ⟨rfl, _, _, hsame⟩
              obtain rfl := hsame rfl
              clear hsame
              go_wp2_with fail
              refine (sum_any _ true _ lk _ HT.out HO.out.bytes HN.out.bytes (by rw [HN.out.len, hlen.out]; omega) (HO.out.avoids (by omega))).mono ?_
              rintro e w5 ⟨rfl, _, _, hsame⟩
              obtain rfl := hsame rfl
              clear hsame
              have tu : (((Crc.more 0 l : Nat) : Int) != ((Crc.more 0 lk : Nat) : Int)) = true := by rw [bne_iff_ne]; have := HU.out; omega
              go_wp2
              go_ret
              exact ⟨rfl, HB.out⟩
end Go.Proofs.Ythocdlihhfhbeaa
