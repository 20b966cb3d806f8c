/-
  CrcLinear: the law's walk.
-/
import Derived.Test.YthocdlihhfhbeaaCrcPartsWalk
import Derived.StillTailTactics
import Derived.Deep.RegionHeld3
import Derived.Deep.AppendLies
import Derived.Deep.QuietTactic
import Derived.BigQuiet
import Derived.Deep.DeepCutAuto
namespace Go.Proofs.Ythocdlihhfhbeaa
open Go.RowKit

namespace Crc
/-- The three put together, byte by byte. -/
def xor3 (a b c : List Nat) (k : Nat) : List Nat := (List.range k).map fun i => a.getD i 0 ^^^ b.getD i 0 ^^^ c.getD i 0
theorem xor3_succ (a b c : List Nat) (k : Nat) : xor3 a b c (k + 1) = xor3 a b c k ++ [a.getD k 0 ^^^ b.getD k 0 ^^^ c.getD k 0] := by
  simp [xor3, List.range_succ]
theorem xor3_length (a b c : List Nat) (k : Nat) : (xor3 a b c k).length = k := by simp [xor3]
theorem feed_xor3 (a b c : List Nat) (k : Nat) (ha : k ≤ a.length) (hb : k ≤ b.length) (hc : k ≤ c.length) (x y z : Nat) :
    feed (x ^^^ y ^^^ z) (xor3 a b c k) = feed x (a.take k) ^^^ feed y (b.take k) ^^^ feed z (c.take k) := by
  induction k with
  | zero => rfl
  | succ k ih =>
    have ih := ih (by omega) (by omega) (by omega)
    rw [xor3_succ, feed_snoc, ih, List.take_succ_eq_append_getElem (by omega), List.take_succ_eq_append_getElem (by omega), List.take_succ_eq_append_getElem (by omega), feed_snoc, feed_snoc, feed_snoc]
    have e : ∀ p q r a b c : Nat, p ^^^ q ^^^ r ^^^ (a ^^^ b ^^^ c) = (p ^^^ a) ^^^ (q ^^^ b) ^^^ (r ^^^ c) := by intros; ac_rfl
    rw [e, stepN_xor, stepN_xor]
    have g : ∀ (l : List Nat) (h : k < l.length), l.getD k 0 = l[k] := fun l h => by simp [List.getD, h]
    rw [g a (by omega), g b (by omega), g c (by omega)]
theorem more_xor3 (a b c : List Nat) (k : Nat) (ha : k ≤ a.length) (hb : k ≤ b.length) (hc : k ≤ c.length) (Ba : Bytes a) (Bb : Bytes b) (Bc : Bytes c) :
    more 0 (a.take k) ^^^ more 0 (b.take k) ^^^ more 0 (c.take k) = more 0 (xor3 a b c k) := by
  have t : ∀ {l : List Nat}, Bytes l → Bytes (l.take k) := fun h b hb => h b (List.mem_of_mem_take hb)
  have fl : ∀ l, Bytes l → feed 4294967295 l < 4294967296 := fun l h => feed_lt l (by omega) h
  have e := feed_xor3 a b c k ha hb hc 4294967295 4294967295 4294967295
  have hx : (4294967295 : Nat) ^^^ 4294967295 ^^^ 4294967295 = 4294967295 := by decide
  rw [hx] at e
  unfold more
  simp only [Nat.sub_zero]
  rw [e, compl_xor (fl _ (t Ba)), compl_xor (fl _ (t Bb)), compl_xor (fl _ (t Bc)), compl_xor (xor_lt (xor_lt (fl _ (t Ba)) (fl _ (t Bb))) (fl _ (t Bc)))]
  have e2 : ∀ F p q r : Nat, (F ^^^ p) ^^^ (F ^^^ q) ^^^ (F ^^^ r) = (F ^^^ F ^^^ F) ^^^ (p ^^^ q ^^^ r) := by intros; ac_rfl
  rw [e2, hx]
theorem xor3_bytes {a b c : List Nat} (Ba : ∀ k, a.getD k 0 < 256) (Bb : ∀ k, b.getD k 0 < 256) (Bc : ∀ k, c.getD k 0 < 256) (k : Nat) : Bytes (xor3 a b c k) := by
  intro x hx
  obtain ⟨i, _, rfl⟩ := List.mem_map.1 hx
  exact Nat.xor_lt_two_pow (n := 8) (Nat.xor_lt_two_pow (n := 8) (Ba i) (Bb i)) (Bc i)
end Crc

theorem BytesAt.take {w : World} {a : Option Addr} {len cap : Nat} {l : List Nat} (h : BytesAt w (.slice a len cap) l) (n : Nat) (hn : n ≤ len) : BytesAt w (.slice a n cap) (l.take n) := by
  rcases h with ⟨rfl, ao, c, e, h0⟩ | ⟨bd, off, c, e, hc⟩
  · injection e with e1 e2 e3
    subst e1; subst e2; subst e3
    obtain rfl : n = 0 := by omega
    exact .inl ⟨by simp, _, _, rfl, h0⟩
  · injection e with e1 e2 e3
    subst e1; subst e2; subst e3
    refine .inr ⟨bd, off, cap, by congr 1; simp; omega, fun i hi => ?_⟩
    simp at hi
    rw [hc i (by omega)]
    have e : (l.take n).getD i 0 = l.getD i 0 := by
      simp only [List.getD, List.getElem?_take]
      rw [if_pos (by omega)]
    rw [e]
theorem BytesAt.length {w : World} {a : Option Addr} {len cap : Nat} {l : List Nat} (h : BytesAt w (.slice a len cap) l) : l.length = len := by
  rcases h with ⟨rfl, ao, c, e, h0⟩ | ⟨bd, off, c, e, hc⟩
  · injection e with e1 e2 e3
    exact e2.symm
  · injection e with e1 e2 e3
    exact e2.symm

theorem still_tail {P : Program} {id : Nat} {Q : Exit → Act → World → Prop} {a : Act} {w : World} {l : List Oper} (n : Nat) (hm : P.follows .mixedOrders = true) (hB : Region.lexTailB .any l.toArray n = true) (W : World) (hW : W = w.drew)
    (h : wpStill P l.toArray W (fun a' => wpList P l.toArray Q (l.drop n) a' W) (l.take n) a) : (Code.region id l.toArray true).wp P Q a w := by
  subst hW
  exact wp_region_still_tail n hm hB h
theorem BytesAt.at {w : World} {a : Option Addr} {len cap : Nat} {l : List Nat} (h : BytesAt w (.slice a len cap) l) (k : Nat) (hk : k < len) : ∃ b off, a = some ⟨b, off, none⟩ ∧ w.cell? ⟨b, off + k, none⟩ = some (.int .u8 (l.getD k 0 : Nat)) := by
  rcases h with ⟨rfl, ao, c, e, h0⟩ | ⟨bd, off, c, e, hc⟩
  · injection e with e1 e2 e3
    omega
  · injection e with e1 e2 e3
    exact ⟨bd, off, e1, hc k (by omega)⟩
theorem Owns.grown {base : Nat} {w w' : World} {v : Value} {l : List Nat} {row : Option Nat} (h : Owns base w v l) (hg : w.grownBy w' row) (hne : v.ownBlock = none ∨ v.ownBlock ≠ row) : Owns base w' v l := World.ownsRow.kept h hg hne
theorem Owns.alloc {base : Nat} {w : World} {v : Value} {l : List Nat} (h : Owns base w v l) (o : Obj) : Owns base (w.alloc o) v l := World.ownsRow.alloc h o
theorem Owns.drew {base : Nat} {w : World} {v : Value} {l : List Nat} (h : Owns base w v l) : Owns base w.drew v l := World.ownsRow.drew h
theorem Table.drew {w : World} {b : Nat} {d : Bool} (h : Table w b d) : Table w.drew b d :=
  ⟨(World.cell?_drew _ _).trans h.once, (World.cell?_drew _ _).trans h.state, fun i hi => by rw [World.cell?_drew]; exact h.words.1 i hi, fun i hi => by rw [World.cell?_drew]; exact h.words.2.1 i hi, h.words.2.2⟩
theorem drewN_eq (w : World) (n : Nat) : w.drewN n = { w with drawn := w.drawn + n } := by first | rfl | simp [World.drewN]
theorem cell_drewN (w : World) (n : Nat) (a : Addr) : (w.drewN n).cell? a = w.cell? a := by rw [drewN_eq]; rfl
theorem frozen_drewN (w : World) (n : Nat) (a : Addr) : (w.drewN n).frozen? a = w.frozen? a := by rw [drewN_eq]; rfl
theorem below_drewN' {B : Nat} {a w : World} (h : Below B a w) (n : Nat) : Below B a (w.drewN n) := by rw [drewN_eq]; exact ⟨h.os, h.tape, h.output, h.size, h.block⟩
theorem Table.drewN {w : World} {b : Nat} {d : Bool} (h : Table w b d) (n : Nat) : Table (w.drewN n) b d :=
  ⟨(cell_drewN _ _ _).trans h.once, (cell_drewN _ _ _).trans h.state, fun i hi => by rw [cell_drewN]; exact h.words.1 i hi, fun i hi => by rw [cell_drewN]; exact h.words.2.1 i hi, fun j => by rw [frozen_drewN]; exact h.words.2.2 j⟩
theorem BytesAt.drewN {w : World} {v : Value} {l : List Nat} (h : BytesAt w v l) (n : Nat) : BytesAt (w.drewN n) v l := by
  rcases h with h | ⟨bd, off, cap, rfl, hc⟩
  · exact .inl h
  · exact .inr ⟨bd, off, cap, rfl, fun i hi => (cell_drewN _ _ _).trans (hc i hi)⟩
/-- Sum with a table that is made, in a world that has drawn: nothing turns. -/
theorem sum_quiet (b : Nat) (v : Value) (l : List Nat) (w : World) (h : Table w b true) (hd : BytesAt w v l) (hB : Crc.Bytes l) (hl : l.length ≤ 9223372036854775807) (ha : Avoids v b) (n : Nat) :
    Calls Try.prog 9 #[.pointer (some ⟨b, 0, none⟩), v] (w.drewN n) fun e w' => e = .returned (.int .u32 (Crc.more 0 l : Nat)) ∧ ∃ m, w' = w.drewN m :=
  (sum_any b true v l (w.drewN n) (h.drewN n) (hd.drewN n) hB hl ha).mono fun _ _ ⟨he, _, _, hs⟩ => ⟨he, n, (hs rfl).symm⟩
theorem BytesAt.drew {w : World} {v : Value} {l : List Nat} (h : BytesAt w v l) : BytesAt w.drew v l := h
/-- One byte in a new block. -/
theorem BytesAt.one (w : World) (x : Nat) : BytesAt (w.alloc (.cells #[.int .u8 (x : Int)] 5)) (.slice (some ⟨w.heap.size, 0, none⟩) 1 1) [x] := by
  refine .inr ⟨w.heap.size, 0, 1, rfl, fun i hi => ?_⟩
  have : i = 0 := by simp at hi; omega
  subst this
  rw [World.cell?_alloc_new]
  rfl

set_option maxRecDepth 100000 in
set_option maxHeartbeats 1600000 in
theorem linear_any (a0 a1 a2 : Option Addr) (n0 n1 n2 c0 c1 c2 : Nat) (l0 l1 l2 : List Nat) (w : World) (hd0 : BytesAt w (.slice a0 n0 c0) l0) (hB0 : Crc.Bytes l0) (hd1 : BytesAt w (.slice a1 n1 c1) l1) (hB1 : Crc.Bytes l1) (hd2 : BytesAt w (.slice a2 n2 c2) l2) (hB2 : Crc.Bytes l2)
    (hc0 : n0 ≤ c0) (hc1 : n1 ≤ c1) (hc2 : n2 ≤ c2) (hl0 : n0 ≤ 140737488351232) (hl1 : n1 ≤ 140737488351232) (hl2 : n2 ≤ 140737488351232) :
    Calls Try.prog 6 #[.slice a0 n0 c0, .slice a1 n1 c1, .slice a2 n2 c2] w fun e w' => e = .returned (.bool true) ∧ Below w.heap.size w w' := by
  have hlen0 := Lib.hid hd0.length
  have hlen1 := Lib.hid hd1.length
  have hlen2 := Lib.hid hd2.length
  have HA0 := Lib.hid hd0.lies
  have HD0 := Lib.hid hd0; clear hd0
  have HA1 := Lib.hid hd1.lies
  have HD1 := Lib.hid hd1; clear hd1
  have HA2 := Lib.hid hd2.lies
  have HD2 := Lib.hid hd2; clear hd2
  have hnot : ∀ (x : Bool) (w : World), (Op.unary .not (.bool x)).run Try.prog w = .ok (.bool (!x)) w := fun _ _ => rfl
  go_enter Try.func6, Try.ntmps6
  go_wp2_with fail
  refine (new_any w).mono ?_
  rintro e w1 ⟨rfl, ht, hb, hz⟩
  have HT := Lib.hid ht; clear ht
  have HB := Lib.hid hb; clear hb
  have hz1 : w.heap.size < w1.heap.size := by omega
  clear hz
  go_wp2_with fail
  refine (known_any _ w.heap.size false w1 HT.out hz1 (Nat.le_refl _)).mono ?_
  rintro e w2 ⟨rfl, ht, hb⟩
  have HT2 := Lib.hid ht; clear ht
  have HB2 := Lib.hid (HB.out.trans hb); clear hb
  have hz2 := HT2.out.lt
  go_upto_region 4 with fail
  go_cut [8] (fun v wx => ∃ n : Nat, v = .int .i64 n ∧ n ≤ n0 ∧ n ≤ n1 ∧ n ≤ n2 ∧ wx = w2)
  case first =>
    go_wp2_with fail
    all_goals go_meet
    all_goals exact ⟨_, rfl, by omega, by omega, by omega, rfl⟩
  case rest =>
    obtain ⟨n, rfl, hn0, hn1, hn2, rfl⟩ := hcut
    go_wp2_with fail
    go_loopw [9, 10] (fun v i wr => ∃ k : Nat, k ≤ n ∧ i = .int .i64 k ∧ Owns (w.heap.size + 1) wr v (Crc.xor3 l0 l1 l2 k) ∧ Below w.heap.size w wr ∧ Table wr w.heap.size true) (fun _ i _ => n - (intOf i).toNat)
    case atStart => exact ⟨0, by omega, rfl, Owns.nil _ _, HB2.out, HT2.out⟩
    case round =>
      obtain ⟨k, hk, rfl, hown, hbel, htab⟩ := hrel
      have HO := Lib.hid hown; clear hown
      have HB := Lib.hid hbel; clear hbel
      have HT := Lib.hid htab; clear htab
      by_cases hlt : k < n
      · obtain ⟨b0, o0, rfl, x0⟩ := (HD0.out.below HB.out HA0.out).at k (by omega)
        obtain ⟨b1, o1, rfl, x1⟩ := (HD1.out.below HB.out HA1.out).at k (by omega)
        obtain ⟨b2, o2, rfl, x2⟩ := (HD2.out.below HB.out HA2.out).at k (by omega)
        have HS := Lib.hid (Crc.xor3_succ l0 l1 l2 k)
        have y0 := getD_byte hB0 k
        have y1 := getD_byte hB1 k
        have y2 := getD_byte hB2 k
        have e1 := u8_xor_nat (l0.getD k 0) (l1.getD k 0) y0 y1
        have y3 : l0.getD k 0 ^^^ l1.getD k 0 < 256 := Nat.xor_lt_two_pow (n := 8) y0 y1
        have e2 := u8_xor_nat (l0.getD k 0 ^^^ l1.getD k 0) (l2.getD k 0) y3 y2
        generalize l0.getD k 0 ^^^ l1.getD k 0 ^^^ l2.getD k 0 = z at *
        generalize l0.getD k 0 ^^^ l1.getD k 0 = y at *
        generalize l0.getD k 0 = p at *
        generalize l1.getD k 0 = q at *
        generalize l2.getD k 0 = r at *
        go_wp2_with fail
        have i0 : (k : Int) < (n0 : Int) := by omega
        have i1 : (k : Int) < (n1 : Int) := by omega
        have i2 : (k : Int) < (n2 : Int) := by omega
        have ip : (0 : Int) ≤ (k : Int) := Int.natCast_nonneg _
        have hsz := HT.out.lt
        have lb0 := HA0.out ⟨b0, o0, none⟩ _ _ rfl (by omega)
        have lb1 := HA1.out ⟨b1, o1, none⟩ _ _ rfl (by omega)
        have lb2 := HA2.out ⟨b2, o2, none⟩ _ _ rfl (by omega)
        simp only at lb0 lb1 lb2
        have f0 : some b0 ≠ u9.ownBlock := fun e => by have := (HO.out.from b0 e.symm).1; omega
        have f1 : some b1 ≠ u9.ownBlock := fun e => by have := (HO.out.from b1 e.symm).1; omega
        have f2 : some b2 ≠ u9.ownBlock := fun e => by have := (HO.out.from b2 e.symm).1; omega
        go_region_held3 (fun w' => w'.cell? ⟨b0, o0 + k, none⟩ = some (.int .u8 (p : Int)) ∧ w'.cell? ⟨b1, o1 + k, none⟩ = some (.int .u8 (q : Int)) ∧ w'.cell? ⟨b2, o2 + k, none⟩ = some (.int .u8 (r : Int)))
          (first | go_keep | (go_split_ands; refine ⟨?_, ?_, ?_⟩; (rw [hgrow.cell_far _ (by simp; omega) f0]; assumption); (rw [hgrow.cell_far _ (by simp; omega) f1]; assumption); (rw [hgrow.cell_far _ (by simp; omega) f2]; assumption)))
          ((refine step_append_bytes (by rfl) _ _ (by rfl) (w.heap.size + 1) u9 _ (by rfl) ((HO.out.alloc _).drew) _ [z] (by rfl) (BytesAt.one _ z) (by rw [Crc.xor3_length]; simp; omega) (by simp; omega) ?_; intro v3 w4 hown hgrow))
        go_wp2
        go_roundw
        case rel =>
          refine ⟨k + 1, by omega, by go_num, by rw [HS.out]; exact hown, ?_, ?_⟩
          · exact ((HB.out.alloc (by omega) _).drew).grown hgrow (by simp; omega) (fun j hj => by have := (HO.out.from j hj).1; omega)
          · exact ((HT.out.alloc hsz _).drew).grown hgrow (by simp; omega) (fun e => by have := (HO.out.from _ e.symm).1; omega)
        case measure => simp [intOf]; omega
      · obtain rfl : k = n := by omega
        have BX := Lib.hid (Crc.xor3_bytes (getD_byte hB0) (getD_byte hB1) (getD_byte hB2) k)
        have E := Lib.hid (Crc.more_xor3 l0 l1 l2 k (by rw [hlen0.out]; omega) (by rw [hlen1.out]; omega) (by rw [hlen2.out]; omega) hB0 hB1 hB2)
        have lt : w.heap.size < w.heap.size + 1 := by omega
        have Q0 := Lib.hid (sum_quiet w.heap.size (.slice a0 k c0) (l0.take k) wr HT.out ((HD0.out.below HB.out HA0.out).take k (by omega)) (take_bytes hB0 k) (by simp; omega) ((HD0.out.take k (by omega)).lies.avoids (Nat.le_refl _)))
        have Q1 := Lib.hid (sum_quiet w.heap.size (.slice a1 k c1) (l1.take k) wr HT.out ((HD1.out.below HB.out HA1.out).take k (by omega)) (take_bytes hB1 k) (by simp; omega) ((HD1.out.take k (by omega)).lies.avoids (Nat.le_refl _)))
        have Q2 := Lib.hid (sum_quiet w.heap.size (.slice a2 k c2) (l2.take k) wr HT.out ((HD2.out.below HB.out HA2.out).take k (by omega)) (take_bytes hB2 k) (by simp; omega) ((HD2.out.take k (by omega)).lies.avoids (Nat.le_refl _)))
        have Q3 := Lib.hid (sum_quiet w.heap.size u9 (Crc.xor3 l0 l1 l2 k) wr HT.out HO.out.bytes BX.out (by rw [Crc.xor3_length]; omega) (HO.out.avoids lt))
        have m0 := Crc.more_lt 0 (l0.take k)
        have m1 := Crc.more_lt 0 (l1.take k)
        have m2 := Crc.more_lt 0 (l2.take k)
        generalize Crc.more 0 (l0.take k) = s0 at *
        generalize Crc.more 0 (l1.take k) = s1 at *
        generalize Crc.more 0 (l2.take k) = s2 at *
        generalize Crc.more 0 (Crc.xor3 l0 l1 l2 k) = s3 at *
        have x1 := u32_xor_nat s0 s1 m0 m1
        have x2 := u32_xor_nat (s0 ^^^ s1) s2 (Crc.xor_lt m0 m1) m2
        rw [E.out] at x2
        generalize s0 ^^^ s1 = s4 at *
        go_wp2_with fail
        have j0 : (k : Int) ≤ (c0 : Int) := by omega
        have j1 : (k : Int) ≤ (c1 : Int) := by omega
        have j2 : (k : Int) ≤ (c2 : Int) := by omega
        have j3 : (0 : Int) ≤ (k : Int) := Int.natCast_nonneg _
        go_quiet ((go_at_call 9; first | (with_reducible exact Q0.out _) | (with_reducible exact Q1.out _) | (with_reducible exact Q2.out _) | (with_reducible exact Q3.out _)))
        go_wp2
        go_ret
        exact ⟨rfl, below_drewN' HB.out _⟩
end Go.Proofs.Ythocdlihhfhbeaa
