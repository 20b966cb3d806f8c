/-
  The document's model: resize, span.
-/
import Derived.Test.YtmanldcohbegkaaRfFind
import Derived.Test.YtmanldcohbegkaaRfSmall
namespace Go.Proofs.Ytmanldcohbegkaa
open Go.RowKit

def resizeS (bl : List (Int × List Nat)) (siz : Int) (lost : Bool) : Int := if sizedB siz = false then 1 else if lost = false ∧ (bl.any fun p => decide (siz ≤ p.1)) = true then 33 else 0
theorem resize_yes {es : REs} {bl : List (Int × List Nat)} {siz : Int} {lost : Bool} (h : SameBl es.data bl) (hs : sizedB siz = true) {e : Int × (Value × List Nat)} (he : e ∈ es) (hl : lost = false) (hf : siz ≤ e.1) : resizeS bl siz lost = 33 := by
  unfold resizeS
  have ha : (bl.any fun p => decide (siz ≤ p.1)) = true := by
    rw [← h.any, List.any_eq_true]
    exact ⟨(e.1, e.2.2), List.mem_map.2 ⟨e, he, rfl⟩, by simpa using hf⟩
  rw [if_neg (by rw [hs]; simp), if_pos ⟨hl, ha⟩]
theorem resize_no {es : REs} {bl : List (Int × List Nat)} {siz : Int} {lost : Bool} (h : SameBl es.data bl) (hs : sizedB siz = true) (hn : ∀ e ∈ es, (!lost && decide (siz ≤ e.1)) = false) : resizeS bl siz lost = 0 := by
  unfold resizeS
  rw [if_neg (by rw [hs]; simp), if_neg]
  rintro ⟨hl, ha⟩
  rw [← h.any, List.any_eq_true] at ha
  obtain ⟨p, hp, hq⟩ := ha
  obtain ⟨e, he, rfl⟩ := List.mem_map.1 hp
  have := hn e he
  rw [hl] at this
  simp at this hq
  omega

set_option maxRecDepth 100000 in
set_option maxHeartbeats 3200000 in
theorem rresize_any (r : Nat) (lv : Value) (vs : List (Vo × Value)) (S : Mo) (W : Nat → Prop) (i : Nat) (p : Vo × Value) (siz : Int) (lost : Bool) (w : World) (h : RefIs w r lv vs S W) (hi : vs[i]? = some p) (hbl : p.1.bl.length ≤ 1048576) :
    Calls Try.prog 44 #[.pointer (some ⟨r, 0, none⟩), .int .i64 (i : Int), .int .i64 siz, .bool lost] w fun e w' => e = .returned (.int .i64 (resizeS p.1.bl siz lost)) ∧ w = w' := by
  obtain ⟨es, hrr, hsb⟩ := h.bl p (List.mem_of_getElem? hi)
  have hil : i < vs.length := (List.getElem?_eq_some_iff.1 hi).1
  obtain ⟨a, c, rfl, hform⟩ := ownsForm h.row
  obtain ⟨g, rfl⟩ : ∃ g, a = some ⟨g, 0, none⟩ := by
    rcases hform with ⟨_, h0, _⟩ | ⟨g, e, _⟩
    · omega
    · exact ⟨g, e⟩
  obtain ⟨n, hn⟩ : ∃ n, n = vs.length := ⟨_, rfl⟩
  rw [← hn] at h hil
  clear hn hform
  have c0 := h.head.cell 0
  simp only [List.getElem?_toArray, List.getElem?_cons_zero] at c0
  have q3 := h.cell hi 3 (by omega)
  simp only [vcell4, List.getElem?_cons_zero, List.getElem?_cons_succ] at q3
  obtain ⟨v, bv⟩ := p
  dsimp only at hrr hsb hbl q3 ⊢
  have hel : es.length ≤ 1048576 := by have := hsb.len; simp only [REs.data, List.length_map] at this; omega
  obtain ⟨ba, bc, rfl, hbf⟩ := ownsForm hrr.row
  obtain ⟨m, hm⟩ : ∃ m, m = es.length := ⟨_, rfl⟩
  rw [← hm] at hrr hbf hel q3
  have hm1 : m ≤ es.length := by omega
  have hm2 : es.length ≤ m := by omega
  clear hm
  have hin : (i : Int) < (n : Int) := by omega
  have hi0 : (0 : Int) ≤ (i : Int) := by omega
  have hiz : ((i : Int)).toNat = i := by omega
  have H := Lib.hid hrr; clear hrr
  have HS := Lib.hid hsb; clear hsb
  have HBF := Lib.hid hbf; clear hbf
  have HSZ := Lib.hid (rsized_any siz)
  obtain ⟨rs, hrs⟩ : ∃ rs, rs = resizeS v.bl siz lost := ⟨_, rfl⟩
  rw [← hrs]
  have HRS := Lib.hid hrs; clear hrs h hi
  cases hsd : sizedB siz with
  | false =>
    rw [hsd] at HSZ
    have HSD := Lib.hid hsd; clear hsd
    have hr1 : rs = 1 := by rw [HRS.out]; unfold resizeS; rw [if_pos HSD.out]
    have HR1 := Lib.hid hr1; clear hr1
    go_enter Try.func44, Try.ntmps44
    go_wp2_with fail
    refine (HSZ.out _).mono ?_
    rintro e w1 ⟨rfl, rfl⟩
    go_wp2
    go_ret
    exact ⟨by rw [HR1.out]; rfl, rfl⟩
  | true =>
    rw [hsd] at HSZ
    have HSD := Lib.hid hsd; clear hsd
    go_enter Try.func44, Try.ntmps44
    go_wp2_with fail
    refine (HSZ.out _).mono ?_
    rintro e w1 ⟨rfl, rfl⟩
    go_wp2_with fail
    go_loopw [9] (fun j wr => ∃ k : Nat, k ≤ m ∧ j = .int .i64 (k : Int) ∧ w = wr ∧ ∀ j, j < k → ∀ e, es[j]? = some e → (!lost && decide (siz ≤ e.1)) = false) (fun j _ => m - (intOf j).toNat)
    case atStart => exact ⟨0, by omega, rfl, rfl, fun j hj => by omega⟩
    case round =>
      obtain ⟨k, hk, rfl, rfl, hno⟩ := hrel
      have HN := Lib.hid hno; clear hno
      by_cases hlt : k < m
      · have hkn : (k : Int) < (m : Int) := by omega
        have hk0 : (0 : Int) ≤ (k : Int) := by omega
        have hkz : ((k : Int)).toNat = k := by omega
        obtain ⟨gb, rfl⟩ : ∃ g, ba = some ⟨g, 0, none⟩ := by
          rcases HBF.out with ⟨_, h0, _⟩ | ⟨g, e, _⟩
          · omega
          · exact ⟨g, e⟩
        obtain ⟨e, he⟩ : ∃ e, es[k]? = some e := ⟨es[k]'(by omega), by simp [show k < es.length by omega]⟩
        have b0 := H.out.cell he 0 (by omega)
        simp only [bcell, List.getElem?_cons_zero, Nat.add_zero] at b0
        have HE := Lib.hid he; clear he
        cases lost with
        | true =>
          go_wp2
          go_roundw
          case rel => exact ⟨k + 1, by omega, by simp, by first | rfl | trivial, hidNo HN.out HE.out rfl⟩
          case measure => simp only [intOf]; omega
        | false =>
          by_cases hge : siz ≤ e.1
          · have HGE := Lib.hid hge
            have hr1 : rs = 33 := by rw [HRS.out]; exact resize_yes HS.out HSD.out (List.mem_of_getElem? HE.out) rfl HGE.out
            have HR1 := Lib.hid hr1; clear hr1
            go_wp2
            go_ret
            exact ⟨by rw [HR1.out]; rfl, by first | rfl | trivial⟩
          · have HGE := Lib.hid hge
            go_wp2
            go_roundw
            case rel => exact ⟨k + 1, by omega, by simp, by first | rfl | trivial, hidNo HN.out HE.out (by simpa using HGE.out)⟩
            case measure => simp only [intOf]; omega
      · obtain rfl : k = m := by omega
        have hkk : ¬ (k : Int) < (k : Int) := by omega
        have hr1 : rs = 0 := by
          rw [HRS.out]
          refine resize_no HS.out HSD.out (fun e he => ?_)
          obtain ⟨j, hj, e1⟩ := List.mem_iff_getElem.1 he
          exact HN.out j (by omega) e (by rw [← e1]; exact List.getElem?_eq_getElem hj)
        have HR1 := Lib.hid hr1; clear hr1
        go_wp2
        go_ret
        exact ⟨by rw [HR1.out]; rfl, by first | rfl | trivial⟩

/-- The refusals of a read. -/
def spanS (S : Mo) (t : Tk) : Int := match S.at t.vol with
  | none => 31
  | some (_, v) => if t.cnt < 1 ∨ 8 < t.cnt then 1 else if beyondB v t = true then 34 else 0
theorem at_of_find {S : Mo} {id : Int} : (S.at id = none ∧ firstAt (fun v : Vo => v.id == id) S.vols = -1) ∨ ∃ (i : Nat) (v : Vo), S.at id = some (i, v) ∧ S.vols[i]? = some v ∧ firstAt (fun v : Vo => v.id == id) S.vols = (i : Int) := by
  rw [find_first]
  cases hf : S.find id with
  | none => exact .inl ⟨by unfold Mo.at; rw [hf]; rfl, rfl⟩
  | some i =>
    have hlt : i < S.vols.length := by
      unfold Mo.find at hf
      exact (List.findIdx?_eq_some_iff_findIdx_eq.1 hf).1
    exact .inr ⟨i, S.vols[i], by unfold Mo.at; rw [hf]; simp [hlt], by simp [hlt], rfl⟩

set_option maxRecDepth 100000 in
set_option maxHeartbeats 3200000 in
theorem rspan_any (r : Nat) (lv : Value) (vs : List (Vo × Value)) (S : Mo) (W : Nat → Prop) (t : Tk) (dv : Value) (w : World) (h : RefIs w r lv vs S W) (hg : Good S) (hdv : ∃ a n c, dv = .slice a n c) :
    Calls Try.prog 41 #[.pointer (some ⟨r, 0, none⟩), .agg (t.cells dv)] w fun e w' => e = .returned (.int .i64 (spanS S t)) ∧ Below w.heap.size w w' := by
  obtain ⟨da, dn, dc, rfl⟩ := hdv
  have hlen8 : vs.length ≤ 8 := by rw [h.len]; exact hg.len
  obtain ⟨rs, hrs⟩ : ∃ rs, rs = spanS S t := ⟨_, rfl⟩
  rw [← hrs]
  unfold spanS at hrs
  obtain ⟨w1, hw1⟩ : ∃ w1, w1 = w.alloc (.cells (t.cells (.slice da dn dc)) 30) := ⟨_, rfl⟩
  have hb1 : Below w.heap.size w w1 := by rw [hw1]; exact allocBelow w _
  have hc1 : CellsAt w1 w.heap.size (t.cells (.slice da dn dc)) 30 := by rw [hw1]; exact heap_at rfl
  have h1 := h.below hb1
  have HF := Lib.hid (rfind_any r lv vs S W t.vol w1 h1 hlen8)
  have HB := Lib.hid hb1; clear hb1
  have c5 := hc1.cell 5
  have c6 := hc1.cell 6
  have c7 := hc1.cell 7
  simp only [Tk.cells, List.getElem?_toArray, List.getElem?_cons_zero, List.getElem?_cons_succ] at c5 c6 c7
  unfold Tk.cells at hw1 ⊢
  clear hc1
  rcases at_of_find (S := S) (id := t.vol) with ⟨hat, hfi⟩ | ⟨i, v, hat, hv, hfi⟩
  · rw [hfi] at HF
    rw [hat] at hrs
    have HRS := Lib.hid (show rs = 31 from hrs); clear hrs hat hfi h1 h
    go_enter Try.func41, Try.ntmps41
    go_upto_region 1 with fail
    rw [← hw1]
    clear hw1
    go_wp2_with fail
    refine HF.out.mono ?_
    rintro e w2 ⟨rfl, rfl⟩
    go_wp2
    go_ret
    exact ⟨by rw [HRS.out]; rfl, HB.out⟩
  · rw [hfi] at HF
    rw [hat] at hrs
    have hrs2 : rs = if t.cnt < 1 ∨ 8 < t.cnt then 1 else if beyondB v t = true then 34 else 0 := hrs
    have hsz := hg.size v (List.mem_of_getElem? hv)
    have hvp : ∃ p, vs[i]? = some p ∧ p.1 = v := by
      rw [h.vols, List.getElem?_map] at hv
      cases hq : vs[i]? with
      | none => rw [hq] at hv; simp at hv
      | some p => rw [hq] at hv; simp at hv; exact ⟨p, rfl, hv⟩
    obtain ⟨p, hp, hpv⟩ := hvp
    have hil : i < vs.length := (List.getElem?_eq_some_iff.1 hp).1
    obtain ⟨a, c, rfl, hform⟩ := ownsForm h1.row
    obtain ⟨g, rfl⟩ : ∃ g, a = some ⟨g, 0, none⟩ := by
      rcases hform with ⟨_, h0, _⟩ | ⟨g, e, _⟩
      · omega
      · exact ⟨g, e⟩
    obtain ⟨n, hn⟩ : ∃ n, n = vs.length := ⟨_, rfl⟩
    rw [← hn] at h1 hil hlen8
    clear hn hform
    have c0 := h1.head.cell 0
    simp only [List.getElem?_toArray, List.getElem?_cons_zero] at c0
    have q1 := h1.cell hp 1 (by omega)
    simp only [vcell4, List.getElem?_cons_zero, List.getElem?_cons_succ, hpv] at q1
    have hin : (i : Int) < (n : Int) := by omega
    have hi0 : (0 : Int) ≤ (i : Int) := by omega
    have hi1 : ¬ (i : Int) < 0 := by omega
    have hiz : ((i : Int)).toNat = i := by omega
    have HRS := Lib.hid hrs2; clear hrs hrs2 hat hfi h1 h hp hv hpv
    go_enter Try.func41, Try.ntmps41
    go_upto_region 1 with fail
    rw [← hw1]
    clear hw1
    go_wp2_with fail
    refine HF.out.mono ?_
    rintro e w2 ⟨rfl, rfl⟩
    by_cases h1 : t.cnt < 1
    · have e1 : decide (t.cnt < 1) = true := by simpa using h1
      have HC := Lib.hid (show rs = 1 by rw [HRS.out, if_pos (.inl h1)]); clear HRS
      go_wp2
      go_ret
      exact ⟨by rw [HC.out]; rfl, HB.out⟩
    have e1 : decide (t.cnt < 1) = false := by simpa using h1
    by_cases h8 : 8 < t.cnt
    · have e8 : decide (8 < t.cnt) = true := by simpa using h8
      have HC := Lib.hid (show rs = 1 by rw [HRS.out, if_pos (.inr h8)]); clear HRS
      go_wp2
      go_ret
      exact ⟨by rw [HC.out]; rfl, HB.out⟩
    have e8 : decide (8 < t.cnt) = false := by simpa using h8
    have HRS2 := Lib.hid (show rs = if beyondB v t = true then 34 else 0 by rw [HRS.out, if_neg (by omega)]); clear HRS
    by_cases l0 : t.lba < 0
    · have d0 : decide (t.lba < 0) = true := by simpa using l0
      have HC := Lib.hid (show rs = 34 by rw [HRS2.out, if_pos (by simp [beyondB, l0])]); clear HRS2
      go_wp2_with fail
      go_quiet (fail)
      go_wp2
      go_ret
      exact ⟨by rw [HC.out]; rfl, below_drewN HB.out _⟩
    have d0 : decide (t.lba < 0) = false := by simpa using l0
    by_cases l1 : v.size ≤ t.lba
    · have d1 : decide (v.size ≤ t.lba) = true := by simpa using l1
      have HC := Lib.hid (show rs = 34 by rw [HRS2.out, if_pos (by simp [beyondB, l1])]); clear HRS2
      go_wp2_with fail
      go_quiet (fail)
      go_wp2
      go_ret
      exact ⟨by rw [HC.out]; rfl, below_drewN HB.out _⟩
    have d1 : decide (v.size ≤ t.lba) = false := by simpa using l1
    have hw : IntKind.i64.wrap (v.size - t.lba) = v.size - t.lba := IntWalk.i64_in _ (by omega)
    by_cases l2 : v.size - t.lba < t.cnt
    · have d2 : decide (v.size - t.lba < t.cnt) = true := by simpa using l2
      have HC := Lib.hid (show rs = 34 by rw [HRS2.out, if_pos (by simp [beyondB, l2])]); clear HRS2
      go_wp2_with fail
      go_quiet (fail)
      go_wp2
      go_ret
      exact ⟨by rw [HC.out]; rfl, below_drewN HB.out _⟩
    · have d2 : decide (v.size - t.lba < t.cnt) = false := by simpa using l2
      have HC := Lib.hid (show rs = 0 by rw [HRS2.out, if_neg (by simp [beyondB]; omega)]); clear HRS2
      go_wp2_with fail
      go_quiet (fail)
      go_wp2
      go_ret
      exact ⟨by rw [HC.out]; rfl, below_drewN HB.out _⟩
end Go.Proofs.Ytmanldcohbegkaa
