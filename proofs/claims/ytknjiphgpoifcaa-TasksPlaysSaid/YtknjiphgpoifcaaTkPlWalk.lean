/-
  The walk of TasksPlays.
-/
import Derived.Test.YtknjiphgpoifcaaTkRefM
import Derived.Test.YtknjiphgpoifcaaTkLists
import Derived.Test.YtknjiphgpoifcaaTkKnown
import Derived.Test.YtknjiphgpoifcaaTkOrdMath
import Derived.Deep.CutBlock
import Derived.Deep.DeepCutAuto
import Derived.Deep.RegionHeld3
namespace Go.Proofs.Ytknjiphgpoifcaa
open Go.RowKit

/-- A step, as it lies. -/
structure OpV where
  k : Int
  t : Tk
  dv : Value
  n : Int
def OpV.cells (x : OpV) : Array Value := #[.int .i64 x.k, .int .i64 x.t.cmd, .int .i64 x.t.tag, .int .i64 x.t.op, .bool x.t.ord, .bool x.t.fua, .int .i64 x.t.vol, .int .i64 x.t.lba, .int .i64 x.t.cnt, .int .i64 x.t.siz, .int .i64 x.t.quo, x.dv, .int .i64 x.n]
/-- A script, as it lies. -/
def OpsAt (w : World) (v : Value) (l : List OpV) : Prop := ∃ a c, v = .slice a l.length c ∧ ∀ i x, l[i]? = some x → (∃ b o, a = some ⟨b, o, none⟩ ∧ b < w.heap.size ∧ ∀ j, j < 13 → w.cell? ⟨b, o + i * 13 + j, none⟩ = x.cells[j]?) ∧
  BytesAt w x.dv x.t.data ∧ x.t.data.length ≤ 140737488355328 ∧ -9223372036854775808 ≤ x.n ∧ x.n ≤ 9223372036854775807
theorem OpsAt.at {w : World} {a : Option Addr} {n c : Nat} {l : List OpV} (h : OpsAt w (.slice a n c) l) : n = l.length ∧ ∀ i x, l[i]? = some x → (∃ b o, a = some ⟨b, o, none⟩ ∧ b < w.heap.size ∧ ∀ j, j < 13 → w.cell? ⟨b, o + i * 13 + j, none⟩ = x.cells[j]?) ∧
  BytesAt w x.dv x.t.data ∧ x.t.data.length ≤ 140737488355328 ∧ -9223372036854775808 ≤ x.n ∧ x.n ≤ 9223372036854775807 := by
  obtain ⟨a', c', e, hc⟩ := h
  injection e with e1 e2 e3
  subst e1 e2
  exact ⟨rfl, hc⟩

/-- lists, of one task each. -/
theorem lists_one (y : Tk) (dva dvb : Value) (p q : Nat) (W : World) (hp : p < W.heap.size) (hq : q < W.heap.size) (ca : ∀ j, W.cell? ⟨p, j, none⟩ = (y.cells dva)[j]?) (cb : ∀ j, W.cell? ⟨q, j, none⟩ = (y.cells dvb)[j]?)
    (ho : Owns 0 W dva y.data) (hl : y.data.length ≤ 140737488355328) (hb : BytesAt W dvb y.data) (hpn : dva.ownBlock ≠ some p) (hqn : dva.ownBlock ≠ some q) (hlb : LiesIn dvb fun z => dva.ownBlock ≠ some z) :
    Calls Try.prog 16 #[.slice (some ⟨p, 0, none⟩) 1 1, .slice (some ⟨q, 0, none⟩) 1 1] W fun e w' => e = .returned (.bool true) ∧ Keeps (fun z => dva.ownBlock = some z) W w' := by
  have one : ∀ (d : Value) (i : Nat) (x : Tk × Value), [(y, d)][i]? = some x → i = 0 ∧ x = (y, d) := fun d i x h => by
    cases i with
    | zero => simp at h; exact ⟨rfl, h.symm⟩
    | succ i => simp at h
  refine lists_yes (.slice (some ⟨p, 0, none⟩) 1 1) (.slice (some ⟨q, 0, none⟩) 1 1) [(y, dva)] [(y, dvb)] (fun z => dva.ownBlock = some z) (fun z => dva.ownBlock ≠ some z) W ⟨⟨_, 1, rfl, fun i x hx => ?_⟩, fun x hx => ?_, List.pairwise_singleton _ _⟩ ⟨⟨_, 1, rfl, fun i x hx => ?_⟩, fun x hx => ?_⟩ (fun k h1 h2 => h1 h2) rfl (by simp)
  · obtain ⟨rfl, rfl⟩ := one _ i x hx
    exact ⟨p, 0, rfl, hpn, hp, fun j _ => by rw [Nat.zero_mul, Nat.add_zero, Nat.zero_add]; exact ca j⟩
  · obtain rfl : x = (y, dva) := by simpa using hx
    exact ⟨ho, hl, fun k h => h⟩
  · obtain ⟨rfl, rfl⟩ := one _ i x hx
    exact ⟨q, 0, rfl, hqn, hq, fun j _ => by rw [Nat.zero_mul, Nat.add_zero, Nat.zero_add]; exact cb j⟩
  · obtain rfl : x = (y, dvb) := by simpa using hx
    exact ⟨hb, hlb, hl⟩

set_option maxRecDepth 100000 in
set_option maxHeartbeats 6400000 in
theorem plays_any (room : Int) (sa : Option Addr) (sn sc : Nat) (ops : List OpV) (w : World) (ho : OpsAt w (.slice sa sn sc) ops) (hsn : sn ≤ maxLen) :
    Calls Try.prog 4 #[.int .i64 room, .slice sa sn sc] w fun e w' => e = .returned (.bool true) ∧ Below w.heap.size w w' := by
  unfold maxLen at hsn
  have HO := Lib.hid ho; clear ho
  by_cases hr : room < 1 ∨ 8 < room
  · have HN1 := Lib.hid (newQ_no room w hr)
    have HN2 := Lib.hid (newR_no room w hr)
    clear hr
    go_enter Try.func4, Try.ntmps4
    go_wp2_with fail
    refine HN1.out.mono ?_
    rintro r w1 ⟨rfl, rfl⟩
    go_wp2_with fail
    refine HN2.out.mono ?_
    rintro r w1 ⟨rfl, rfl⟩
    go_wp2_with fail
    refine (known_any w).mono ?_
    rintro r w2 ⟨rfl, hb⟩
    go_wp2_with fail
    go_ret
    exact ⟨rfl, hb⟩
  · obtain ⟨rm, rfl⟩ : ∃ rm : Nat, room = rm := ⟨room.toNat, by omega⟩
    have hr1 : 1 ≤ rm := by omega
    have hr8 : rm ≤ 8 := by omega
    clear hr
    have HN := Lib.hid (que_new rm w hr1 hr8)
    go_enter Try.func4, Try.ntmps4
    go_wp2_with fail
    refine HN.out.mono ?_
    rintro r w1 ⟨rfl, hq, hb⟩
    have hlt := hq.lt.1
    have HQ := Lib.hid hq
    have HB := Lib.hid hb
    clear hq hb HN
    go_wp2_with fail
    refine (rque_new rm w1 hr1 hr8).mono ?_
    rintro r w2 ⟨rfl, hq, hb⟩
    have HP := Lib.hid (Pair.start (A := (w.heap.size ≤ ·)) HQ.out hq (by omega) hb (fun k h => h))
    have HB2 := Lib.hid (HB.out.trans (hb.mono (by omega)))
    have hs2 := hb.size
    clear hq hb HQ HB
    go_wp2_with fail
    refine (known_any w2).mono ?_
    rintro r w3 ⟨rfl, hb⟩
    have HP3 := Lib.hid (HP.out.below hb)
    have HB3 := Lib.hid (HB2.out.trans (hb.mono (by omega)))
    have hs3 := hb.size
    clear hb HP HB2
    go_wp2_with fail
    go_loopg [7] sn (fun g s7 wx => ∃ (m N : Nat) (s : St), s7 = .int .i64 m ∧ m + g = sn ∧ Pair (w.heap.size ≤ ·) N wx w.heap.size w1.heap.size rm s s ∧ w.heap.size ≤ N ∧ Below w.heap.size w wx)
    case atStart => exact ⟨0, _, [], rfl, by omega, HP3.out, by omega, HB3.out⟩
    case round =>
      clear HP3 HB3
      obtain ⟨m, N, s, rfl, hmg, hpr, hN, hbel⟩ := hrel
      have HP := Lib.hid hpr; clear hpr
      have HB := Lib.hid hbel; clear hbel
      by_cases hm : m < sn
      case neg =>
        go_wp2_with fail
        go_ret
        exact ⟨rfl, HB.out⟩
      case pos =>
        obtain ⟨⟨k, t, dv, n⟩, hx⟩ : ∃ x, ops[m]? = some x := ⟨ops[m]'(by rw [← HO.out.at.1]; exact hm), List.getElem?_eq_getElem _⟩
        obtain ⟨⟨b, o, rfl, hbl, hcells⟩, hbytes, hdl, hn1, hn2⟩ := HO.out.at.2 m _ hx
        dsimp only at hbytes hdl hn1 hn2
        obtain ⟨da, dc, rfl, _⟩ := hbytes.form
        clear hx
        have hc : ∀ j, j < 13 → wr.cell? ⟨b, o + m * 13 + j, none⟩ = (OpV.cells ⟨k, t, .slice da t.data.length dc, n⟩)[j]? := fun j hj => (HB.out.cell (p := ⟨b, o + m * 13 + j, none⟩) hbl).trans (hcells j hj)
        have q0 := hc 0 (by omega)
        have q1 := hc 1 (by omega)
        have q2 := hc 2 (by omega)
        have q3 := hc 3 (by omega)
        have q4 := hc 4 (by omega)
        have q5 := hc 5 (by omega)
        have q6 := hc 6 (by omega)
        have q7 := hc 7 (by omega)
        have q8 := hc 8 (by omega)
        have q9 := hc 9 (by omega)
        have q10 := hc 10 (by omega)
        have q11 := hc 11 (by omega)
        have q12 := hc 12 (by omega)
        simp only [OpV.cells, List.getElem?_cons_zero, List.getElem?_cons_succ, List.getElem?_toArray, Nat.add_zero] at q0 q1 q2 q3 q4 q5 q6 q7 q8 q9 q10 q11 q12
        clear hc hcells
        have hNr := HP.out.lt.1
        obtain ⟨W, hW⟩ : ∃ W, W = wr.alloc (.cells (OpV.cells ⟨k, t, .slice da t.data.length dc, n⟩) 44) := ⟨_, rfl⟩
        have hsW : W.heap.size = wr.heap.size + 1 := by rw [hW]; simp
        have HX := Lib.hid (show ∀ j, W.cell? ⟨wr.heap.size, j, none⟩ = (OpV.cells ⟨k, t, .slice da t.data.length dc, n⟩)[j]? from fun j => by rw [hW]; exact World.cell?_alloc_new _ _ _ _)
        have HPW := Lib.hid (show Pair (w.heap.size ≤ ·) N W w.heap.size w1.heap.size rm s s by rw [hW]; exact HP.out.below (allocBelow wr _))
        have HBW := Lib.hid (show Below w.heap.size w W by rw [hW]; exact HB.out.trans ((allocBelow wr _).mono HB.out.size))
        have HDW := Lib.hid (hbytes.below HBW.out hbytes.lies)
        have HDL := Lib.hid hbytes.lies
        clear hbytes HP HB
        go_upto_block 2 with fail
        change Code.wp _ _ _ _ (wr.alloc (.cells (OpV.cells ⟨k, t, .slice da t.data.length dc, n⟩) 44))
        rw [← hW]
        clear hW q0 q1 q2 q3 q4 q5 q6 q7 q8 q9 q10 q11 q12
        go_cut [9, 10, 11, 12, 13, 14, 15, 16] from 32 to 138 (fun s9 _ _ _ _ _ _ _ wx => s9 = .bool true ∧ ∃ (N : Nat) (s : St), Pair (w.heap.size ≤ ·) N wx w.heap.size w1.heap.size rm s s ∧ w.heap.size ≤ N ∧ Below w.heap.size w wx)
        case first =>
          have hX := HX.out
          unfold OpV.cells at hX
          by_cases k0 : k = 0
          · subst k0
            --<A>
            have hsz := HBW.out.size
            obtain ⟨W1, hW1⟩ : ∃ W1, W1 = W.alloc (.cells (t.cells (.slice da t.data.length dc)) 32) := ⟨_, rfl⟩
            have hs1 : W1.heap.size = W.heap.size + 1 := by rw [hW1]; simp
            have hT1 : ∀ j, W1.cell? ⟨wr.heap.size + 1, j, none⟩ = (t.cells (.slice da t.data.length dc))[j]? := fun j => by rw [hW1, ← hsW]; exact World.cell?_alloc_new _ _ _ _
            have hF1 : ∀ j, W1.frozen? ⟨wr.heap.size + 1, j, none⟩ = false := fun j => by rw [hW1, ← hsW]; exact World.frozen?_alloc_new _ _ _ _
            have hB1 : Below W.heap.size W W1 := by rw [hW1]; exact allocBelow W _
            have HD1 := Lib.hid (HDW.out.later hB1)
            have q0 := hX 1
            have q1 := hX 2
            have q2 := hX 3
            have q3 := hX 4
            have q4 := hX 5
            have q5 := hX 6
            have q6 := hX 7
            have q7 := hX 8
            have q8 := hX 9
            have q9 := hX 10
            have q10 := hX 11
            simp only [List.getElem?_cons_zero, List.getElem?_cons_succ, List.getElem?_toArray] at q0 q1 q2 q3 q4 q5 q6 q7 q8 q9 q10
            have HT1 := Lib.hid hT1
            unfold Tk.cells at hT1
            go_upto_region 15 with fail
            change Code.wp _ _ _ _ (W.alloc (.cells (t.cells (.slice da t.data.length dc)) 32))
            rw [← hW1]
            clear hW1 q0 q1 q2 q3 q4 q5 q6 q7 q8 q9 q10
            go_upto_region 17 with (at_builtin; refine wpList_append_bytes rfl (.tmp 48) (.tmp 50) rfl W1.heap.size (.slice none 0 0) [] rfl (Owns.nil _ _) (.slice da t.data.length dc) t.data rfl HD1.out (by simp; omega) (Nat.le_refl _) ?_; intro v' w2 hown hgrow; rw [List.nil_append] at hown; obtain ⟨ea, ec, rfl, _⟩ := (Owns.bytes hown).form)
            have hb2 : Below W1.heap.size W1 w2 := (Below.refl _ _).grown hgrow (Nat.le_refl _) (fun k hk => by simp [Value.ownBlock] at hk)
            have hs2 := hb2.size
            have hT2 : ∀ j, w2.cell? ⟨wr.heap.size + 1, j, none⟩ = (t.cells (.slice da t.data.length dc))[j]? := fun j => (hb2.cell (p := ⟨wr.heap.size + 1, j, none⟩) (by simp; omega)).trans (HT1.out j)
            have hF2 : ∀ j, w2.frozen? ⟨wr.heap.size + 1, j, none⟩ = false := fun j => (hb2.frozen (p := ⟨wr.heap.size + 1, j, none⟩) (by simp; omega)).trans (hF1 j)
            obtain ⟨W3, hW3⟩ : ∃ W3, W3 = w2.setCell ⟨wr.heap.size + 1, 10, none⟩ (.slice ea t.data.length ec) := ⟨_, rfl⟩
            have hs3 : W3.heap.size = w2.heap.size := by rw [hW3]; simp [World.setCell]
            have K3 : Keeps (· = wr.heap.size + 1) w2 W3 := by rw [hW3]; exact Keeps.setCell (Keeps.refl (· = wr.heap.size + 1) w2) (p := ⟨wr.heap.size + 1, 10, none⟩) (fun _ => rfl) _
            have hbW : Below W.heap.size W W3 := (hB1.trans (hb2.mono (by omega))).trans (K3.below (B := W.heap.size) (by omega) (fun z h1 h2 => by omega))
            have HT3 := Lib.hid (show ∀ j, W3.cell? ⟨wr.heap.size + 1, j, none⟩ = (t.cells (.slice ea t.data.length ec))[j]? from fun j => by
              rw [hW3]
              by_cases hj : j = 10
              · subst hj
                rw [World.cell?_setCell_same _ _ _ (hT2 10)]; rfl
              · rw [World.cell?_setCell_other _ _ _ _ (by simp <;> omega), hT2 j]
                unfold Tk.cells
                match j, hj with
                | 0, _ | 1, _ | 2, _ | 3, _ | 4, _ | 5, _ | 6, _ | 7, _ | 8, _ | 9, _ => rfl
                | j + 11, _ => rfl)
            have HX3 := Lib.hid (show ∀ j, W3.cell? ⟨wr.heap.size, j, none⟩ = _ from fun j => (hbW.cell (p := ⟨wr.heap.size, j, none⟩) (by simp; omega)).trans (hX j))
            have HO3 := Lib.hid (show Owns W1.heap.size W3 (.slice ea t.data.length ec) t.data from hown.keeps K3 (fun z hz e => by have := (hown.from z hz).1; omega))
            have HP3 := Lib.hid (HPW.out.below hbW)
            have HB3 := Lib.hid (HBW.out.trans (hbW.mono hsz))
            have HD3 := Lib.hid (HDW.out.later hbW)
            clear hown hgrow K3 hbW hb2 hB1 hT1 hF1 HT1
            unfold Tk.cells at hT2
            go_upto_region 18 with fail
            rw [← hW3]
            clear hW3 hT2 hF2 HD1
            obtain ⟨A, hA⟩ : ∃ A : Nat → Prop, A = fun z => w.heap.size ≤ z ∧ (z < N ∨ W3.heap.size ≤ z) := ⟨_, rfl⟩
            have hk0 : Keeps A W3 W3.drew := (Keeps.refl A W3).drew
            have hs0 : W3.heap.size ≤ W3.drew.heap.size := hk0.size
            have HP0 := Lib.hid ((HP3.out.mono (B := A) (fun z h1 h2 => by rw [hA]; exact ⟨h1, .inl h2⟩)).below (Below.refl W3.heap.size W3).drew)
            have HPA := Lib.hid (show ∀ V M, Pair A M V w.heap.size w1.heap.size rm s s → Keeps A W3 V → Calls Try.prog 8 #[.pointer (some ⟨w.heap.size, 0, none⟩), .agg (t.cells (.slice ea t.data.length ec))] V fun r V' => r = .returned (.int .i64 (sPutE rm s t)) ∧ Pair A V'.heap.size V' w.heap.size w1.heap.size rm (sPut rm s t) s ∧ Keeps A V V' from fun V M h hk =>
              (pair_putA t _ h (fun z hz => by rw [hA]; have := hk.size; exact ⟨by omega, .inr (by omega)⟩) ((HO3.out.keeps hk (fun z hz h => by rw [hA] at h; have := HO3.out.from z hz; rcases h.2 with h | h <;> omega)).bytes) hdl).mono fun e V' ⟨h1, h2, h3⟩ => ⟨h1, h2, h3.mono fun _ _ h => h.1⟩)
            have HPB := Lib.hid (show ∀ V M, Pair A M V w.heap.size w1.heap.size rm (sPut rm s t) s → Keeps A W3 V → Calls Try.prog 14 #[.pointer (some ⟨w1.heap.size, 0, none⟩), .agg (t.cells (.slice da t.data.length dc))] V fun r V' => r = .returned (.int .i64 (sPutE rm s t)) ∧ Pair A V'.heap.size V' w.heap.size w1.heap.size rm (sPut rm s t) (sPut rm s t) ∧ Keeps A V V' from fun V M h hk =>
              (pair_putB t _ h (fun z hz => by rw [hA]; have := hk.size; exact ⟨by omega, .inr (by omega)⟩) (HD3.out.keeps hk (HDL.out.mono fun z hz h => by rw [hA] at h; have := h.1; omega)) hdl).mono fun e V' ⟨h1, h2, h3⟩ => ⟨h1, h2, h3.mono fun _ _ h => h.1⟩)
            unfold Tk.cells at HPA HPB
            have nx : ¬ A wr.heap.size := by rw [hA]; intro h; rcases h.2 with h | h <;> omega
            have nt : ¬ A (wr.heap.size + 1) := by rw [hA]; intro h; rcases h.2 with h | h <;> omega
            have lt1 : wr.heap.size + 1 < W3.heap.size := by omega
            have lx1 : wr.heap.size < W3.heap.size := by omega
            have HSS := Lib.hid (show ∀ V, Keeps A W3 V → V.cell? ⟨wr.heap.size + 1, 0, none⟩ = some (.int .i64 t.cmd) ∧ V.cell? ⟨wr.heap.size + 1, 1, none⟩ = some (.int .i64 t.tag) ∧ V.cell? ⟨wr.heap.size + 1, 2, none⟩ = some (.int .i64 t.op) ∧ V.cell? ⟨wr.heap.size + 1, 3, none⟩ = some (.bool t.ord) ∧ V.cell? ⟨wr.heap.size + 1, 4, none⟩ = some (.bool t.fua) ∧ V.cell? ⟨wr.heap.size + 1, 5, none⟩ = some (.int .i64 t.vol) ∧ V.cell? ⟨wr.heap.size + 1, 6, none⟩ = some (.int .i64 t.lba) ∧ V.cell? ⟨wr.heap.size + 1, 7, none⟩ = some (.int .i64 t.cnt) ∧ V.cell? ⟨wr.heap.size + 1, 8, none⟩ = some (.int .i64 t.siz) ∧ V.cell? ⟨wr.heap.size + 1, 9, none⟩ = some (.int .i64 t.quo) ∧ V.cell? ⟨wr.heap.size + 1, 10, none⟩ = some (.slice ea t.data.length ec) ∧ V.cell? ⟨wr.heap.size, 1, none⟩ = some (.int .i64 t.cmd) ∧ V.cell? ⟨wr.heap.size, 2, none⟩ = some (.int .i64 t.tag) ∧ V.cell? ⟨wr.heap.size, 3, none⟩ = some (.int .i64 t.op) ∧ V.cell? ⟨wr.heap.size, 4, none⟩ = some (.bool t.ord) ∧ V.cell? ⟨wr.heap.size, 5, none⟩ = some (.bool t.fua) ∧ V.cell? ⟨wr.heap.size, 6, none⟩ = some (.int .i64 t.vol) ∧ V.cell? ⟨wr.heap.size, 7, none⟩ = some (.int .i64 t.lba) ∧ V.cell? ⟨wr.heap.size, 8, none⟩ = some (.int .i64 t.cnt) ∧ V.cell? ⟨wr.heap.size, 9, none⟩ = some (.int .i64 t.siz) ∧ V.cell? ⟨wr.heap.size, 10, none⟩ = some (.int .i64 t.quo) ∧ V.cell? ⟨wr.heap.size, 11, none⟩ = some (.slice da t.data.length dc) from fun V hV => ⟨(hV.cell (p := ⟨wr.heap.size + 1, 0, none⟩) lt1 nt).trans (HT3.out 0), (hV.cell (p := ⟨wr.heap.size + 1, 1, none⟩) lt1 nt).trans (HT3.out 1), (hV.cell (p := ⟨wr.heap.size + 1, 2, none⟩) lt1 nt).trans (HT3.out 2), (hV.cell (p := ⟨wr.heap.size + 1, 3, none⟩) lt1 nt).trans (HT3.out 3), (hV.cell (p := ⟨wr.heap.size + 1, 4, none⟩) lt1 nt).trans (HT3.out 4), (hV.cell (p := ⟨wr.heap.size + 1, 5, none⟩) lt1 nt).trans (HT3.out 5), (hV.cell (p := ⟨wr.heap.size + 1, 6, none⟩) lt1 nt).trans (HT3.out 6), (hV.cell (p := ⟨wr.heap.size + 1, 7, none⟩) lt1 nt).trans (HT3.out 7), (hV.cell (p := ⟨wr.heap.size + 1, 8, none⟩) lt1 nt).trans (HT3.out 8), (hV.cell (p := ⟨wr.heap.size + 1, 9, none⟩) lt1 nt).trans (HT3.out 9), (hV.cell (p := ⟨wr.heap.size + 1, 10, none⟩) lt1 nt).trans (HT3.out 10), (hV.cell (p := ⟨wr.heap.size, 1, none⟩) lx1 nx).trans (HX3.out 1), (hV.cell (p := ⟨wr.heap.size, 2, none⟩) lx1 nx).trans (HX3.out 2), (hV.cell (p := ⟨wr.heap.size, 3, none⟩) lx1 nx).trans (HX3.out 3), (hV.cell (p := ⟨wr.heap.size, 4, none⟩) lx1 nx).trans (HX3.out 4), (hV.cell (p := ⟨wr.heap.size, 5, none⟩) lx1 nx).trans (HX3.out 5), (hV.cell (p := ⟨wr.heap.size, 6, none⟩) lx1 nx).trans (HX3.out 6), (hV.cell (p := ⟨wr.heap.size, 7, none⟩) lx1 nx).trans (HX3.out 7), (hV.cell (p := ⟨wr.heap.size, 8, none⟩) lx1 nx).trans (HX3.out 8), (hV.cell (p := ⟨wr.heap.size, 9, none⟩) lx1 nx).trans (HX3.out 9), (hV.cell (p := ⟨wr.heap.size, 10, none⟩) lx1 nx).trans (HX3.out 10), (hV.cell (p := ⟨wr.heap.size, 11, none⟩) lx1 nx).trans (HX3.out 11)⟩)
            clear hX
            go_region_held3 (fun w' => w'.cell? ⟨wr.heap.size + 1, 0, none⟩ = some (.int .i64 t.cmd) ∧ w'.cell? ⟨wr.heap.size + 1, 1, none⟩ = some (.int .i64 t.tag) ∧ w'.cell? ⟨wr.heap.size + 1, 2, none⟩ = some (.int .i64 t.op) ∧ w'.cell? ⟨wr.heap.size + 1, 3, none⟩ = some (.bool t.ord) ∧ w'.cell? ⟨wr.heap.size + 1, 4, none⟩ = some (.bool t.fua) ∧ w'.cell? ⟨wr.heap.size + 1, 5, none⟩ = some (.int .i64 t.vol) ∧ w'.cell? ⟨wr.heap.size + 1, 6, none⟩ = some (.int .i64 t.lba) ∧ w'.cell? ⟨wr.heap.size + 1, 7, none⟩ = some (.int .i64 t.cnt) ∧ w'.cell? ⟨wr.heap.size + 1, 8, none⟩ = some (.int .i64 t.siz) ∧ w'.cell? ⟨wr.heap.size + 1, 9, none⟩ = some (.int .i64 t.quo) ∧ w'.cell? ⟨wr.heap.size + 1, 10, none⟩ = some (.slice ea t.data.length ec) ∧ w'.cell? ⟨wr.heap.size, 1, none⟩ = some (.int .i64 t.cmd) ∧ w'.cell? ⟨wr.heap.size, 2, none⟩ = some (.int .i64 t.tag) ∧ w'.cell? ⟨wr.heap.size, 3, none⟩ = some (.int .i64 t.op) ∧ w'.cell? ⟨wr.heap.size, 4, none⟩ = some (.bool t.ord) ∧ w'.cell? ⟨wr.heap.size, 5, none⟩ = some (.bool t.fua) ∧ w'.cell? ⟨wr.heap.size, 6, none⟩ = some (.int .i64 t.vol) ∧ w'.cell? ⟨wr.heap.size, 7, none⟩ = some (.int .i64 t.lba) ∧ w'.cell? ⟨wr.heap.size, 8, none⟩ = some (.int .i64 t.cnt) ∧ w'.cell? ⟨wr.heap.size, 9, none⟩ = some (.int .i64 t.siz) ∧ w'.cell? ⟨wr.heap.size, 10, none⟩ = some (.int .i64 t.quo) ∧ w'.cell? ⟨wr.heap.size, 11, none⟩ = some (.slice da t.data.length dc))
              (first | exact HSS.out _ hk0 | exact HSS.out _ hk1 | exact HSS.out _ hk2)
              (first
                | (go_at_call 8; refine (HPA.out _ _ HP0.out hk0).mono ?_; rintro _ V1 ⟨rfl, hp, hk⟩; have hk1 : Keeps A W3 V1 := hk0.trans hk (fun _ _ h => h); have HP1 := Lib.hid hp; clear hp hk)
                | (go_at_call 14; refine (HPB.out _ _ HP1.out hk1).mono ?_; rintro _ V2 ⟨rfl, hp, hk⟩; have hk2 : Keeps A W3 V2 := hk1.trans hk (fun _ _ h => h); have HP2 := Lib.hid hp; clear hp hk))
            have HB2 := Lib.hid (HB3.out.trans (hk2.below (B := w.heap.size) (by omega) (fun z h1 h2 => by rw [hA] at h2; have := h2.1; omega)))
            have HO2 := Lib.hid ((HO3.out.keeps hk2 (fun z hz h => by rw [hA] at h; have := HO3.out.from z hz; rcases h.2 with h | h <;> omega)).mono (Nat.zero_le _))
            have HNA := Lib.hid (show ∀ z, (Value.slice ea t.data.length ec).ownBlock = some z → ¬ A z ∧ w.heap.size ≤ z from fun z hz => by have := HO3.out.from z hz; exact ⟨fun h => by rw [hA] at h; rcases h.2 with h | h <;> omega, by omega⟩)
            clear HSS HPA HPB HP0 HP1
            obtain ⟨s2, hs2e⟩ : ∃ s2, s2 = sPut rm s t := ⟨_, rfl⟩
            rw [← hs2e] at HP2
            have hZ := HB2.out.size
            clear hs2e
            go_wp2_with fail
            go_loopg [12] t.data.length (fun g s12 wx => ∃ kk : Nat, s12 = .int .i64 kk ∧ kk + g = t.data.length ∧ (∃ l' : List Nat, l'.length = t.data.length ∧ Owns 0 wx (.slice ea t.data.length ec) l') ∧ Pair A V2.heap.size wx w.heap.size w1.heap.size rm s2 s2 ∧ Below w.heap.size w wx)
            case atStart => exact ⟨0, rfl, by omega, ⟨_, rfl, HO2.out⟩, HP2.out, HB2.out⟩
            case round =>
              clear HO2 HP2 HB2
              obtain ⟨kk, rfl, hkg, ⟨l', hl', ho'⟩, hp', hb'⟩ := hrel
              have HOX := Lib.hid ho'; clear ho'
              have HPX := Lib.hid hp'; clear hp'
              have HBX := Lib.hid hb'; clear hb'
              by_cases hk : kk < t.data.length
              case neg =>
                go_wp2_with fail
                go_meet
                exact ⟨rfl, _, s2, HPX.out.mono (fun z h1 h2 => by rw [hA] at h1; exact h1.1), hZ, HBX.out⟩
              case pos =>
                obtain ⟨g0, e0⟩ : ∃ g0, ea = some ⟨g0, 0, none⟩ := by
                  rcases HOX.out.2 with ⟨_, h0⟩ | ⟨g, cap, cur, e, _⟩
                  · omega
                  · injection e with e1
                    exact ⟨g, e1⟩
                subst e0
                have hfr := HOX.out.freeNo kk
                have hcl := HOX.out.cellNo kk (by omega)
                have hng := HNA.out g0 rfl
                go_wp2_with fail
                go_roundg (gk - 1)
                case measure => omega
                case rel =>
                  refine ⟨kk + 1, by go_num, by omega, ⟨l'.set kk 98, by simpa using hl', HOX.out.set kk 98⟩, ?_, HBX.out.setCell hng.2 _⟩
                  exact HPX.out.keeps (H := (· = g0)) (Keeps.setCell (F := (· = g0)) (Keeps.refl _ _) (p := ⟨g0, kk, none⟩) (fun _ => rfl) _) (fun z h1 h2 e => hng.1 (e ▸ h1))
            --</A>
          by_cases k1 : k = 1
          · subst k1
            obtain ⟨⟨y, e, s1⟩, hst⟩ : ∃ q, q = sTake s n := ⟨_, rfl⟩
            have HA := Lib.hid (pair_takeA n HPW.out)
            rw [← hst] at HA
            have hsz := HBW.out.size
            have h12 := hX 12
            simp only [List.getElem?_cons_zero, List.getElem?_cons_succ, List.getElem?_toArray] at h12
            go_upto_region 24 with fail
            go_wp2_with fail
            refine HA.out.mono ?_
            rintro r V1 ⟨dv1, rfl, hown, hyl, hp1, hk1⟩
            obtain ⟨ea, ec, rfl, _⟩ := (Owns.bytes hown).form
            have hs1 := hk1.size
            have HO1 := Lib.hid hown
            have HK1 := Lib.hid (hk1.trans (Keeps.of_below (F := fun z => w.heap.size ≤ z ∧ z < N) (allocBelow V1 (.cells (y.cells (.slice ea y.data.length ec)) 32))) (fun _ _ h => h))
            have h12b := (HK1.out.cell (p := ⟨wr.heap.size, 12, none⟩) (by simp; omega) (by simp; omega)).trans h12
            have HB := Lib.hid (pair_takeB n (hp1.below (allocBelow V1 (.cells (y.cells (.slice ea y.data.length ec)) 32))) ⟨hn1, hn2⟩)
            rw [← hst] at HB
            clear hown hp1 hk1 HA hX h12
            unfold Tk.cells at h12b
            simp only [Tk.cells]
            go_upto_region 25 with fail
            go_wp2_with fail
            refine HB.out.mono ?_
            rintro r V2 ⟨dv2, rfl, hby, hli, hp2, hk2⟩
            obtain ⟨fa, fc, rfl, _⟩ := hby.form
            have hs2 := hk2.size
            simp only [World.size_alloc] at hs2
            obtain ⟨W3, hW3⟩ : ∃ W3, W3 = V2.alloc (.cells (y.cells (.slice fa y.data.length fc)) 32) := ⟨_, rfl⟩
            have hs3 : W3.heap.size = V2.heap.size + 1 := by rw [hW3]; simp
            have HA3 := Lib.hid (show ∀ j, W3.cell? ⟨V1.heap.size, j, none⟩ = (y.cells (.slice ea y.data.length ec))[j]? from fun j => by
              rw [hW3, World.cell?_alloc_lt _ _ _ (by simp; omega), hk2.cell (p := ⟨V1.heap.size, j, none⟩) (by simp) (by simp; omega)]
              exact World.cell?_alloc_new _ _ _ _)
            have HB3 := Lib.hid (show ∀ j, W3.cell? ⟨V2.heap.size, j, none⟩ = (y.cells (.slice fa y.data.length fc))[j]? from fun j => by rw [hW3]; exact World.cell?_alloc_new _ _ _ _)
            have HK3 := Lib.hid (show Keeps (fun z => w.heap.size ≤ z ∧ z < N) W W3 by rw [hW3]; exact (HK1.out.trans hk2 (fun _ _ h => h)).trans (Keeps.of_below (F := fun z => w.heap.size ≤ z ∧ z < N) (allocBelow V2 _)) (fun _ _ h => h))
            have HO3 := Lib.hid (show Owns W.heap.size W3 (.slice ea y.data.length ec) y.data by
              rw [hW3]
              exact ((HO1.out.keeps (F := fun _ => False) (Keeps.of_below (allocBelow V1 _)) (fun _ _ h => h)).keeps hk2 (fun z hz h => by have := (HO1.out.from z hz).1; omega)).keeps (F := fun _ => False) (Keeps.of_below (allocBelow V2 _)) (fun _ _ h => h))
            have HY3 := Lib.hid (show BytesAt W3 (.slice fa y.data.length fc) y.data by rw [hW3]; exact hby.later (allocBelow V2 _))
            have HL3 := Lib.hid hli
            have HP3 := Lib.hid (show Pair (w.heap.size ≤ ·) N W3 w.heap.size w1.heap.size rm s1 s1 by rw [hW3]; exact hp2.below (allocBelow V2 _))
            have hea := fun z (hz : (Value.slice ea y.data.length ec).ownBlock = some z) => HO1.out.from z hz
            have HEA := Lib.hid hea
            simp only [Tk.cells]
            go_upto_region 26 with fail
            change Code.wp _ _ _ _ (V2.alloc (.cells (y.cells (.slice fa y.data.length fc)) 32))
            rw [← hW3]
            clear hby hli hp2 hk2 hW3 HB HK1 HO1 h12b hea
            have ca := HA3.out
            have cb := HB3.out
            unfold Tk.cells at ca cb
            obtain ⟨W5, hW5⟩ : ∃ W5, W5 = (W3.alloc (.cells (y.cells (.slice ea y.data.length ec)) 32)).alloc (.cells (y.cells (.slice fa y.data.length fc)) 32) := ⟨_, rfl⟩
            have hb5 : Below W3.heap.size W3 W5 := by rw [hW5]; exact (allocBelow W3 _).trans ((allocBelow _ _).mono (by simp))
            have hs5 : W5.heap.size = W3.heap.size + 2 := by rw [hW5]; simp
            have HL1 := Lib.hid (lists_one y (.slice ea y.data.length ec) (.slice fa y.data.length fc) (V2.heap.size + 1) (V2.heap.size + 1 + 1) W5 (by omega) (by omega)
              (fun j => by rw [hW5, World.cell?_alloc_lt _ _ _ (by simp; omega), ← hs3]; exact World.cell?_alloc_new _ _ _ _)
              (fun j => by
                have e5 : V2.heap.size + 1 + 1 = (W3.alloc (.cells (y.cells (.slice ea y.data.length ec)) 32)).heap.size := by simp; omega
                rw [hW5, e5]
                exact World.cell?_alloc_new _ _ _ _)
              ((HO3.out.mono (Nat.zero_le _)).keeps (F := fun _ => False) (Keeps.of_below hb5) (fun _ _ h => h)) hyl (HY3.out.later hb5)
              (fun h => by have := (HEA.out _ h).2; omega) (fun h => by have := (HEA.out _ h).2; omega) (HL3.out.mono fun z hz h => by have := (HEA.out _ h).1; omega))
            have HP5 := Lib.hid (HP3.out.below hb5)
            have HK5 := Lib.hid (HK3.out.trans (Keeps.of_below (F := fun z => w.heap.size ≤ z ∧ z < N) hb5) (fun _ _ h => h))
            clear hb5 HP3 HK3 HO3 HY3 HA3 HB3
            go_wp2_with fail
            change Calls _ _ _ ((W3.alloc (.cells (y.cells (.slice ea y.data.length ec)) 32)).alloc (.cells (y.cells (.slice fa y.data.length fc)) 32)) _
            rw [← hW5]
            clear hW5 ca cb
            refine HL1.out.mono ?_
            rintro r V6 ⟨rfl, hk6⟩
            have HP6 := Lib.hid (HP5.out.keeps hk6 (fun z h1 h2 h3 => by have := (HEA.out _ h3).1; omega))
            have HK6 := Lib.hid (HK5.out.trans (hk6.mono (G := fun z => W.heap.size ≤ z) (fun z _ h => (HEA.out _ h).1)) (fun z h1 h2 => by omega))
            clear hk6 HL1 HP5 HK5
            go_wp2_with fail
            go_meet
            exact ⟨rfl, N, s1, HP6.out, hN, HBW.out.trans (HK6.out.below (B := w.heap.size) hsz (fun z h1 h2 => by have := h2.1; omega))⟩
          by_cases k2 : k = 2
          · subst k2
            --<A>
            obtain ⟨A, hA⟩ : ∃ A : Nat → Prop, A = fun z => w.heap.size ≤ z ∧ (z < N ∨ W.heap.size ≤ z) := ⟨_, rfl⟩
            obtain ⟨⟨d, s2⟩, hsd⟩ : ∃ q, q = sDone s n := ⟨_, rfl⟩
            have hsz := HBW.out.size
            have hk0 : Keeps A W W.drew := (Keeps.refl A W).drew
            have hs0 : W.heap.size ≤ W.drew.heap.size := hk0.size
            have HP0 := Lib.hid ((HPW.out.mono (B := A) (fun z h1 h2 => by rw [hA]; exact ⟨h1, .inl h2⟩)).below (Below.refl W.heap.size W).drew)
            have HDA := Lib.hid (show ∀ V M, Pair A M V w.heap.size w1.heap.size rm s s → W.heap.size ≤ V.heap.size → Calls Try.prog 11 #[.pointer (some ⟨w.heap.size, 0, none⟩), .int .i64 n] V fun r V' => r = .returned (.int .i64 d) ∧ Pair A V'.heap.size V' w.heap.size w1.heap.size rm s2 s ∧ Keeps A V V' from fun V M h hs => by
              have := pair_doneA n h (fun z hz => by rw [hA]; exact ⟨by omega, .inr (by omega)⟩)
              rw [← hsd] at this
              exact this.mono fun e V' ⟨h1, h2, h3⟩ => ⟨h1, h2, h3.mono fun _ _ h => h.1⟩)
            have HDB := Lib.hid (show ∀ V M, Pair A M V w.heap.size w1.heap.size rm s2 s → W.heap.size ≤ V.heap.size → Calls Try.prog 17 #[.pointer (some ⟨w1.heap.size, 0, none⟩), .int .i64 n] V fun r V' => r = .returned (.int .i64 d) ∧ Pair A V'.heap.size V' w.heap.size w1.heap.size rm s2 s2 ∧ Keeps A V V' from fun V M h hs => by
              have := pair_doneB n h (fun z hz => by rw [hA]; exact ⟨by omega, .inr (by omega)⟩)
              rw [← hsd] at this
              exact this.mono fun e V' ⟨h1, h2, h3⟩ => ⟨h1, h2, h3.mono fun _ _ h => h.1⟩)
            have h12 := hX 12
            simp only [List.getElem?_cons_zero, List.getElem?_cons_succ, List.getElem?_toArray] at h12
            have nx : ¬ A wr.heap.size := by rw [hA]; intro h; rcases h.2 with h | h <;> omega
            have HSS := Lib.hid (show ∀ V, Keeps A W V → V.cell? ⟨wr.heap.size, 12, none⟩ = some (.int .i64 n) from fun V hV => (hV.cell (p := ⟨wr.heap.size, 12, none⟩) (by simp; omega) nx).trans h12)
            clear hsd
            go_upto_region 28 with fail
            go_region_held3 (fun w' => w'.cell? ⟨wr.heap.size, 12, none⟩ = some (.int .i64 n))
              (first | exact HSS.out _ hk0 | exact HSS.out _ hk1 | exact HSS.out _ hk2)
              (first
                | (go_at_call 11; refine (HDA.out _ _ HP0.out hs0).mono ?_; rintro _ V1 ⟨rfl, hp, hk⟩; have hk1 : Keeps A W V1 := hk0.trans hk (fun _ _ h => h); have HP1 := Lib.hid hp; clear hp hk)
                | (go_at_call 17; refine (HDB.out _ _ HP1.out hk1.size).mono ?_; rintro _ V2 ⟨rfl, hp, hk⟩; have hk2 : Keeps A W V2 := hk1.trans hk (fun _ _ h => h); have HP2 := Lib.hid hp; clear hp hk))
            go_wp2_with fail
            go_meet
            have hb2 := HBW.out.trans (hk2.below (B := w.heap.size) hsz (fun z h1 h2 => by rw [hA] at h2; have := h2.1; omega))
            exact ⟨rfl, _, s2, HP2.out.mono (fun z h1 h2 => by rw [hA] at h1; exact h1.1), hb2.size, hb2⟩
            --</A>
          by_cases k3 : k = 3
          · subst k3
            --<A>
            obtain ⟨A, hA⟩ : ∃ A : Nat → Prop, A = fun z => w.heap.size ≤ z ∧ (z < N ∨ W.heap.size ≤ z) := ⟨_, rfl⟩
            obtain ⟨⟨d, s2⟩, hsd⟩ : ∃ q, q = sAbort s n := ⟨_, rfl⟩
            have hsz := HBW.out.size
            have hk0 : Keeps A W W.drew := (Keeps.refl A W).drew
            have hs0 : W.heap.size ≤ W.drew.heap.size := hk0.size
            have HP0 := Lib.hid ((HPW.out.mono (B := A) (fun z h1 h2 => by rw [hA]; exact ⟨h1, .inl h2⟩)).below (Below.refl W.heap.size W).drew)
            have HDA := Lib.hid (show ∀ V M, Pair A M V w.heap.size w1.heap.size rm s s → W.heap.size ≤ V.heap.size → Calls Try.prog 18 #[.pointer (some ⟨w.heap.size, 0, none⟩), .int .i64 n] V fun r V' => r = .returned (.bool d) ∧ Pair A V'.heap.size V' w.heap.size w1.heap.size rm s2 s ∧ Keeps A V V' from fun V M h hs => by
              have := pair_abortA n h (fun z hz => by rw [hA]; exact ⟨by omega, .inr (by omega)⟩)
              rw [← hsd] at this
              exact this.mono fun e V' ⟨h1, h2, h3⟩ => ⟨h1, h2, h3.mono fun _ _ h => h.1⟩)
            have HDB := Lib.hid (show ∀ V M, Pair A M V w.heap.size w1.heap.size rm s2 s → W.heap.size ≤ V.heap.size → Calls Try.prog 19 #[.pointer (some ⟨w1.heap.size, 0, none⟩), .int .i64 n] V fun r V' => r = .returned (.bool d) ∧ Pair A V'.heap.size V' w.heap.size w1.heap.size rm s2 s2 ∧ Keeps A V V' from fun V M h hs => by
              have := pair_abortB n h (fun z hz => by rw [hA]; exact ⟨by omega, .inr (by omega)⟩)
              rw [← hsd] at this
              exact this.mono fun e V' ⟨h1, h2, h3⟩ => ⟨h1, h2, h3.mono fun _ _ h => h.1⟩)
            have h12 := hX 12
            simp only [List.getElem?_cons_zero, List.getElem?_cons_succ, List.getElem?_toArray] at h12
            have nx : ¬ A wr.heap.size := by rw [hA]; intro h; rcases h.2 with h | h <;> omega
            have HSS := Lib.hid (show ∀ V, Keeps A W V → V.cell? ⟨wr.heap.size, 12, none⟩ = some (.int .i64 n) from fun V hV => (hV.cell (p := ⟨wr.heap.size, 12, none⟩) (by simp; omega) nx).trans h12)
            clear hsd
            go_upto_region 30 with fail
            go_region_held3 (fun w' => w'.cell? ⟨wr.heap.size, 12, none⟩ = some (.int .i64 n))
              (first | exact HSS.out _ hk0 | exact HSS.out _ hk1 | exact HSS.out _ hk2)
              (first
                | (go_at_call 18; refine (HDA.out _ _ HP0.out hs0).mono ?_; rintro _ V1 ⟨rfl, hp, hk⟩; have hk1 : Keeps A W V1 := hk0.trans hk (fun _ _ h => h); have HP1 := Lib.hid hp; clear hp hk)
                | (go_at_call 19; refine (HDB.out _ _ HP1.out hk1.size).mono ?_; rintro _ V2 ⟨rfl, hp, hk⟩; have hk2 : Keeps A W V2 := hk1.trans hk (fun _ _ h => h); have HP2 := Lib.hid hp; clear hp hk))
            go_wp2_with fail
            go_meet
            have hb2 := HBW.out.trans (hk2.below (B := w.heap.size) hsz (fun z h1 h2 => by rw [hA] at h2; have := h2.1; omega))
            exact ⟨rfl, _, s2, HP2.out.mono (fun z h1 h2 => by rw [hA] at h1; exact h1.1), hb2.size, hb2⟩
            --</A>
          · have b0 : (k == 0) = false := by rw [beq_eq_false_iff_ne]; exact k0
            have b1 : (k == 1) = false := by rw [beq_eq_false_iff_ne]; exact k1
            have b2 : (k == 2) = false := by rw [beq_eq_false_iff_ne]; exact k2
            have b3 : (k == 3) = false := by rw [beq_eq_false_iff_ne]; exact k3
            clear k0 k1 k2 k3
            go_wp2_with fail
            go_meet
            exact ⟨rfl, N, s, HPW.out, hN, HBW.out⟩
        case rest =>
          clear HPW HBW hN hNr
          obtain ⟨rfl, N, s, hpr, hN, hbel⟩ := hcut
          have HP := Lib.hid hpr; clear hpr
          have HB := Lib.hid hbel; clear hbel
          obtain ⟨ra, rc, hrl⟩ := HP.out.cell
          have hql := HP.out.lt
          have hb0 : Below wc.heap.size wc wc.drew := (Below.refl _ _).drew
          have HP0 := Lib.hid (HP.out.below hb0)
          have HSS := Lib.hid (show ∀ V, Below wc.heap.size wc V → V.cell? ⟨w1.heap.size, 1, none⟩ = some (.slice ra s.length rc) from fun V hV => (hV.cell (p := ⟨w1.heap.size, 1, none⟩) (by simp; omega)).trans hrl)
          clear hrl
          go_upto_region 31 with fail
          go_region_held3 (fun w' => w'.cell? ⟨w1.heap.size, 1, none⟩ = some (.slice ra s.length rc))
            (first | exact HSS.out _ hb0 | exact HSS.out _ hb5 | exact HSS.out _ hb6 | exact HSS.out _ hb8)
            (first
              | (go_at_call 10; refine (pair_lenA HP0.out).mono ?_; rintro _ V4 ⟨rfl, rfl⟩)
              | (go_at_call 9; refine (pair_readyA HP0.out).mono ?_; rintro _ V5 ⟨v, rfl, ⟨tl, htl, hrd⟩, hb⟩; obtain ⟨va, vc, rfl⟩ := htl.shape; have hb5 : Below wc.heap.size wc V5 := hb0.trans (hb.mono hb0.size); have HP5 := Lib.hid (HP0.out.below hb); have HTL := Lib.hid htl; have HRD := Lib.hid hrd; clear hb htl hrd)
              | (go_at_call 20; refine (pair_readyB HP5.out).mono ?_; rintro _ V6 ⟨v, rfl, ⟨tm, htl, hrd⟩, hb⟩; obtain ⟨vb, vd, rfl, _⟩ := htl.row; have hb6 : Below wc.heap.size wc V6 := hb5.trans (hb.mono hb5.size); have HP6 := Lib.hid (HP5.out.below hb); have HM := Lib.hid (HTL.out.mine.keeps (Keeps.of_below (F := fun _ => False) hb) (fun _ _ h => h)); have HR := Lib.hid htl; have HRD2 := Lib.hid (HRD.out.trans hrd.symm); have HLN := Lib.hid (show tl.length ≤ 1000000 from by have h1 := sReady_le s; rw [← HRD.out, List.length_map] at h1; omega); clear hb htl hrd)
              | (go_at_call 16; refine (lists_yes _ _ tl tm _ _ V6 HM.out HR.out (fun k h1 h2 => by have := h2.1; have := h2.2.1; have := hb0.size; rcases h1 with h1 | h1 <;> omega) HRD2.out HLN.out).mono ?_; rintro _ V7 ⟨rfl, hb⟩; have hb8 : Below wc.heap.size wc V7 := hb6.trans (hb.below hb6.size (fun k h1 h2 => by have := h2.1; have := hb0.size; omega)); have HP8 := Lib.hid (HP6.out.keeps hb (fun k h1 h2 h3 => by have := h3.1; have := hb0.size; omega)); clear hb))
          go_wp2_with fail
          go_roundg (gk - 1)
          case measure => omega
          case rel => exact ⟨m + 1, N, s, by go_num, by omega, HP8.out, hN, HB.out.trans (hb8.mono HB.out.size)⟩
end Go.Proofs.Ytknjiphgpoifcaa
