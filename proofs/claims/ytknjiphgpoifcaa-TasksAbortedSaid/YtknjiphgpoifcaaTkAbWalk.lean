/-
  The walk of TasksAborted.
-/
import Derived.Test.YtknjiphgpoifcaaTkAbMath
import Derived.Test.YtknjiphgpoifcaaTkBoth
import Derived.Test.YtknjiphgpoifcaaTkLists
import Derived.Test.YtknjiphgpoifcaaTkOrdWalk
import Derived.Deep.RegionHeld3
namespace Go.Proofs.Ytknjiphgpoifcaa
open Go.RowKit

theorem Told.reads {base : Nat} {w : World} {v : Value} {tl : List (Tk × Value)} (h : Told base w v tl) : Reads w v tl (base ≤ ·) := by
  refine ⟨?_, fun p hp => ?_⟩
  · obtain ⟨a, c, rfl⟩ := h.shape
    refine ⟨a, c, rfl, fun i p hp => ?_⟩
    have hi : i < tl.length := (List.getElem?_eq_some_iff.1 hp).1
    obtain ⟨g, cap, e, h1, h2⟩ := World.ownsRow.form h.own (by omega)
    injection e with e1 e2 e3
    subst e1
    refine ⟨g, 0, rfl, h1, h2, fun j hj => ?_⟩
    rw [Nat.zero_add, World.ownsRow.cellAt h.own _ (by omega), tflat_get tl i p hp j hj]
  · obtain ⟨h1, h2, h3⟩ := h.data p hp
    exact ⟨h1.bytes, h1.lies.mono fun k hk => hk.1, h2⟩

set_option maxRecDepth 100000 in
set_option maxHeartbeats 6400000 in
theorem aborted_any (oa pa : Option Addr) (on oc pn pc : Nat) (which : Int) (os : List Bool) (ps : List Int) (w : World) (ho : BoolsAt w (.slice oa on oc) os) (hp : IntsAt w (.slice pa pn pc) ps) (hon : on ≤ maxLen) (hpn : pn ≤ maxLen) :
    Calls Try.prog 5 #[.slice oa on oc, .int .i64 which, .slice pa pn pc] w fun e w' => e = .returned (.bool true) ∧ Below w.heap.size w w' := by
  unfold maxLen at hon hpn
  have HO := Lib.hid ho; clear ho
  have HP := Lib.hid hp; clear hp
  have HN := Lib.hid (que_new 8 w (by decide) (by decide))
  go_enter Try.func5, Try.ntmps5
  go_wp2_with fail
  refine HN.out.mono ?_
  rintro r w1 ⟨rfl, hq, hb⟩
  have hlt := hq.lt.1
  have HQ := Lib.hid hq
  have HB := Lib.hid hb
  clear hq hb HN
  go_wp2_with fail
  refine (que_new 8 w1 (by decide) (by decide)).mono ?_
  rintro r w2 ⟨rfl, hq, hb⟩
  have hlt2 := hq.lt.1
  have HTW := Lib.hid (Both.start HQ.out hq (by omega) hb)
  have HB2 := Lib.hid (HB.out.trans (hb.mono (by omega)))
  clear hq hb HQ HB
  go_wp2_with fail
  refine (known_any w2).mono ?_
  rintro r w3 ⟨rfl, hb⟩
  have HTW3 := Lib.hid (HTW.out.below hb)
  have HB3 := Lib.hid (HB2.out.trans (hb.mono (by omega)))
  have hs3 := hb.size
  clear hb HTW HB2
  obtain ⟨o, hoo⟩ : ∃ o : Nat → Bool, o = fun n => os.getD n false := ⟨_, rfl⟩
  have HOO := Lib.hid hoo; clear hoo
  go_upto_region 5 with fail
  go_cut [9] (fun v wx => ∃ n : Nat, v = .int .i64 n ∧ n ≤ on ∧ n ≤ 8 ∧ wx = w3)
  case first =>
    go_wp2_with fail
    all_goals go_meet
    · exact ⟨8, rfl, by omega, by omega, rfl⟩
    · exact ⟨_, rfl, by omega, by omega, rfl⟩
  case rest =>
    obtain ⟨n, rfl, hn1, hn8, rfl⟩ := hcut
    by_cases hn0 : n = 0
    · subst hn0
      go_wp2_with fail
      refine (both_abort which HTW3.out).mono ?_
      rintro r w4 ⟨rfl, _, hk4⟩
      rw [abort_nil]
      have HB4 := Lib.hid (HB3.out.trans (hk4.below (B := w.heap.size) (by omega) (fun k h1 h2 => by omega)))
      clear hk4
      go_wp2_with fail
      go_ret
      exact ⟨rfl, HB4.out⟩
    · have b0 : ((n : Int) == 0) = false := by rw [beq_eq_false_iff_ne]; omega
      have hnp : 0 < n := by omega
      clear hn0
      go_upto_if 43 with fail
      go_cut [10] (fun v wx => ∃ k : Nat, v = .int .i64 k ∧ k < n ∧ wx = wc)
      case first =>
        have q1 := tmod_bounds which n hnp
        obtain ⟨q1, q2⟩ := q1
        generalize which.tmod (n : Int) = q at *
        by_cases hq : q < 0
        · have ew : IntKind.i64.wrap (q + (n : Int)) = q + (n : Int) := IntWalk.i64_in _ (by omega)
          go_wp2_with fail
          go_meet
          exact ⟨(q + n).toNat, by congr 1; omega, by omega, rfl⟩
        · go_wp2_with fail
          go_meet
          exact ⟨q.toNat, by congr 1; omega, by omega, rfl⟩
      case rest =>
        obtain ⟨k, rfl, hkn, rfl⟩ := hcut
        go_upto_region 11 with fail
        go_wp2_with fail
        go_loopg [11] n (fun g s11 wx => ∃ i N : Nat, s11 = .int .i64 i ∧ i + g = n ∧ Both w.heap.size N wx w.heap.size w1.heap.size (abA o i) (abB o k i) ∧ w.heap.size ≤ N ∧ Below w.heap.size w wx)
        case atStart => exact ⟨0, w2.heap.size, rfl, by omega, HTW3.out, by omega, HB3.out⟩
        case round =>
          clear HTW3 HB3
          obtain ⟨i, N, rfl, hig, htw, hN, hbel⟩ := hrel
          have HT := Lib.hid htw; clear htw
          have HB := Lib.hid hbel; clear hbel
          by_cases hi : i < n
          case neg =>
            obtain rfl : i = n := by omega
            clear hig hi
            have ew : IntKind.i64.wrap (100 + (k : Int)) = 100 + (k : Int) := IntWalk.i64_in _ (by omega)
            have HA1 := Lib.hid (both_abort (100 + (k : Int)) HT.out)
            rw [abA_abort o k i hkn] at HA1
            have hNr := HT.out.lt.1
            go_wp2_with fail
            refine HA1.out.mono ?_
            rintro r w4 ⟨rfl, ht4, hk4⟩
            have HA2 := Lib.hid (both_abort (100 + (k : Int)) ht4)
            have hN4 := ht4.lt.1
            rw [abB_abort] at HA2
            have HB4 := Lib.hid (HB.out.trans (hk4.below (B := w.heap.size) HB.out.size (fun k h1 h2 => by omega)))
            clear ht4 hk4 HA1 HT HB
            go_wp2_with fail
            refine HA2.out.mono ?_
            rintro r w5 ⟨rfl, ht5, hk5⟩
            have HT := Lib.hid ht5
            have HB := Lib.hid (HB4.out.trans (hk5.below (B := w.heap.size) HB4.out.size (fun k h1 h2 => by omega)))
            clear ht5 hk5 HA2 HB4 ew
            obtain ⟨s0, hs0⟩ : ∃ s0, s0 = abB o k i := ⟨_, rfl⟩
            rw [← hs0] at HT
            clear hs0
            clear HOO HO
            go_wp2_with fail
            go_loopg [13] pn (fun g s13 wx => ∃ (m : Nat) (s : St), s13 = .int .i64 m ∧ m + g = pn ∧ Both w.heap.size N wx w.heap.size w1.heap.size s s ∧ Below w.heap.size w wx)
            case atStart => exact ⟨0, s0, rfl, by omega, HT.out, HB.out⟩
            case round =>
              clear HT HB
              obtain ⟨m, s, rfl, hmg, htw, hbel⟩ := hrel
              have HT := Lib.hid htw; clear htw
              have HB := Lib.hid hbel; clear hbel
              by_cases hm : m < pn
              case neg =>
                go_wp2_with fail
                go_ret
                exact ⟨rfl, HB.out⟩
              case pos =>
                obtain ⟨pb, po, rfl, hpb, xp⟩ := HP.out.at.2 m hm
                have xp := (HB.out.cell (p := ⟨pb, po + m, none⟩) hpb).trans xp
                generalize ps.getD m 0 = p at *
                have hNr := HT.out.lt.1
                obtain ⟨⟨x, e, s1⟩, hst⟩ : ∃ q, q = sTake s p := ⟨_, rfl⟩
                have HA := Lib.hid (both_take p HT.out)
                rw [← hst] at HA
                go_wp2_with fail
                refine HA.out.mono ?_
                rintro r w6 ⟨dv, rfl, hown, hxl, ht6, hk6⟩
                obtain ⟨da, dc, rfl, _⟩ := (Owns.bytes hown).form
                have HB6 := Lib.hid (HB.out.trans (hk6.below (B := w.heap.size) HB.out.size (fun k h1 h2 => by omega)))
                have xp := (HB6.out.cell (p := ⟨pb, po + m, none⟩) hpb).trans ((HB.out.cell (p := ⟨pb, po + m, none⟩) hpb).symm.trans xp)
                have hs6 := hk6.size
                have HO6 := Lib.hid hown
                have HT6 := Lib.hid (ht6.below (allocBelow w6 (.cells (x.cells (.slice da x.data.length dc)) 32)))
                have HC := Lib.hid (both_take p HT6.out.swap)
                rw [← hst] at HC
                clear hown ht6 hk6 HA HT HB
                simp only [Tk.cells]
                go_upto_region 23 with fail
                have hsx : w6.heap.size + 1 = (w6.alloc (.cells (x.cells (.slice da x.data.length dc)) 32)).heap.size := by simp
                have hws6 := HB6.out.size
                have xp6 : (w6.alloc (.cells (x.cells (.slice da x.data.length dc)) 32)).cell? ⟨pb, po + m, none⟩ = some (.int .i64 p) := by rw [World.cell?_alloc_lt _ _ _ (by simp; omega)]; exact xp
                unfold Tk.cells at xp6
                go_wp2_with fail
                refine HC.out.mono ?_
                rintro r w7 ⟨dv, rfl, hown, _, ht7, hk7⟩
                obtain ⟨db, dd, rfl, _⟩ := (Owns.bytes hown).form
                have hs7 := hk7.size
                rw [← hsx] at hs7
                have HB7 := Lib.hid ((HB6.out.trans ((allocBelow w6 (.cells (x.cells (.slice da x.data.length dc)) 32)).mono HB6.out.size)).trans (hk7.below (B := w.heap.size) (by rw [← hsx]; have := HB6.out.size; omega) (fun k h1 h2 => by omega)))
                have hX7 : ∀ j, w7.cell? ⟨w6.heap.size, j, none⟩ = (x.cells (.slice da x.data.length dc))[j]? := fun j => (hk7.cell (p := ⟨w6.heap.size, j, none⟩) (by simp) (by simp; omega)).trans (World.cell?_alloc_new _ _ _ _)
                have xp7 := (HB7.out.cell (p := ⟨pb, po + m, none⟩) hpb).trans ((HB6.out.cell (p := ⟨pb, po + m, none⟩) hpb).symm.trans xp)
                have hox := (HO6.out.keeps (F := fun _ => False) (Keeps.of_below (allocBelow w6 (.cells (x.cells (.slice da x.data.length dc)) 32))) (fun _ _ h => h)).keeps hk7 (fun k e h => by have := (HO6.out.from k e).1; omega)
                have HT7 := Lib.hid ht7.swap
                have HOX := Lib.hid hox
                have HOY := Lib.hid hown
                have HX7 := Lib.hid hX7
                clear hown hox ht7 hk7 hX7 HT6 HC HO6 HB6 xp
                simp only [Tk.cells]
                go_upto_region 24 with fail
                obtain ⟨W, hW⟩ : ∃ W, W = w7.alloc (.cells (x.cells (.slice db x.data.length dd)) 32) := ⟨_, rfl⟩
                have hWs : W.heap.size = w7.heap.size + 1 := by rw [hW]; simp
                obtain ⟨D, hD⟩ : ∃ D : Nat → Prop, D = fun k => w.heap.size ≤ k ∧ k < N := ⟨_, rfl⟩
                have HX := Lib.hid (show ∀ j, W.cell? ⟨w6.heap.size, j, none⟩ = (x.cells (.slice da x.data.length dc))[j]? from fun j => by rw [hW, World.cell?_alloc_lt _ _ _ (by simp; omega)]; exact HX7.out j)
                have HY := Lib.hid (show ∀ j, W.cell? ⟨w7.heap.size, j, none⟩ = (x.cells (.slice db x.data.length dd))[j]? from fun j => by rw [hW]; exact World.cell?_alloc_new _ _ _ _)
                have hws7 := HB7.out.size
                have HPC := Lib.hid (show W.cell? ⟨pb, po + m, none⟩ = some (.int .i64 p) from by rw [hW, World.cell?_alloc_lt _ _ _ (by simp; omega)]; exact xp7)
                have HT8 := Lib.hid (show Both w.heap.size N W w.heap.size w1.heap.size s1 s1 by rw [hW]; exact HT7.out.below (allocBelow w7 _))
                have HB8 := Lib.hid (show Below w.heap.size w W by rw [hW]; exact HB7.out.trans ((allocBelow w7 _).mono HB7.out.size))
                have hxW : BytesAt W (.slice da x.data.length dc) x.data := by rw [hW]; exact (HOX.out.bytes).later (allocBelow w7 _)
                have hyW : BytesAt W (.slice db x.data.length dd) x.data := by rw [hW]; exact (HOY.out.bytes).later (allocBelow w7 _)
                have HSame := Lib.hid (show ∀ V, Keeps D W V → _ from fun V hV => same_yes x (.slice da x.data.length dc) (.slice db x.data.length dd) V (hxW.keeps hV (HOX.out.lies.mono fun k hk => by rw [hD]; simp only; omega)) (hyW.keeps hV (HOY.out.lies.mono fun k hk => by rw [hD]; simp only; omega)) hxl)
                unfold Tk.cells at HSame
                have lx : w6.heap.size < W.heap.size := by omega
                have ly : w7.heap.size < W.heap.size := by omega
                have lp : pb < W.heap.size := by omega
                have nx : ¬ D w6.heap.size := by rw [hD]; intro h; have := h.2; omega
                have ny : ¬ D w7.heap.size := by rw [hD]; intro h; have := h.2; omega
                have np : ¬ D pb := by rw [hD]; intro h; have := h.1; omega
                have HSS := Lib.hid (show ∀ V, Keeps D W V → V.cell? ⟨w6.heap.size, 0, none⟩ = some (.int .i64 x.cmd) ∧ V.cell? ⟨w6.heap.size, 1, none⟩ = some (.int .i64 x.tag) ∧ V.cell? ⟨w6.heap.size, 2, none⟩ = some (.int .i64 x.op) ∧ V.cell? ⟨w6.heap.size, 3, none⟩ = some (.bool x.ord) ∧ V.cell? ⟨w6.heap.size, 4, none⟩ = some (.bool x.fua) ∧ V.cell? ⟨w6.heap.size, 5, none⟩ = some (.int .i64 x.vol) ∧ V.cell? ⟨w6.heap.size, 6, none⟩ = some (.int .i64 x.lba) ∧ V.cell? ⟨w6.heap.size, 7, none⟩ = some (.int .i64 x.cnt) ∧ V.cell? ⟨w6.heap.size, 8, none⟩ = some (.int .i64 x.siz) ∧ V.cell? ⟨w6.heap.size, 9, none⟩ = some (.int .i64 x.quo) ∧ V.cell? ⟨w6.heap.size, 10, none⟩ = some (.slice da x.data.length dc) ∧ V.cell? ⟨w7.heap.size, 0, none⟩ = some (.int .i64 x.cmd) ∧ V.cell? ⟨w7.heap.size, 1, none⟩ = some (.int .i64 x.tag) ∧ V.cell? ⟨w7.heap.size, 2, none⟩ = some (.int .i64 x.op) ∧ V.cell? ⟨w7.heap.size, 3, none⟩ = some (.bool x.ord) ∧ V.cell? ⟨w7.heap.size, 4, none⟩ = some (.bool x.fua) ∧ V.cell? ⟨w7.heap.size, 5, none⟩ = some (.int .i64 x.vol) ∧ V.cell? ⟨w7.heap.size, 6, none⟩ = some (.int .i64 x.lba) ∧ V.cell? ⟨w7.heap.size, 7, none⟩ = some (.int .i64 x.cnt) ∧ V.cell? ⟨w7.heap.size, 8, none⟩ = some (.int .i64 x.siz) ∧ V.cell? ⟨w7.heap.size, 9, none⟩ = some (.int .i64 x.quo) ∧ V.cell? ⟨w7.heap.size, 10, none⟩ = some (.slice db x.data.length dd) ∧ V.cell? ⟨pb, po + m, none⟩ = some (.int .i64 p) from fun V hV => ⟨(hV.cell (p := ⟨w6.heap.size, 0, none⟩) lx nx).trans (HX.out 0), (hV.cell (p := ⟨w6.heap.size, 1, none⟩) lx nx).trans (HX.out 1), (hV.cell (p := ⟨w6.heap.size, 2, none⟩) lx nx).trans (HX.out 2), (hV.cell (p := ⟨w6.heap.size, 3, none⟩) lx nx).trans (HX.out 3), (hV.cell (p := ⟨w6.heap.size, 4, none⟩) lx nx).trans (HX.out 4), (hV.cell (p := ⟨w6.heap.size, 5, none⟩) lx nx).trans (HX.out 5), (hV.cell (p := ⟨w6.heap.size, 6, none⟩) lx nx).trans (HX.out 6), (hV.cell (p := ⟨w6.heap.size, 7, none⟩) lx nx).trans (HX.out 7), (hV.cell (p := ⟨w6.heap.size, 8, none⟩) lx nx).trans (HX.out 8), (hV.cell (p := ⟨w6.heap.size, 9, none⟩) lx nx).trans (HX.out 9), (hV.cell (p := ⟨w6.heap.size, 10, none⟩) lx nx).trans (HX.out 10), (hV.cell (p := ⟨w7.heap.size, 0, none⟩) ly ny).trans (HY.out 0), (hV.cell (p := ⟨w7.heap.size, 1, none⟩) ly ny).trans (HY.out 1), (hV.cell (p := ⟨w7.heap.size, 2, none⟩) ly ny).trans (HY.out 2), (hV.cell (p := ⟨w7.heap.size, 3, none⟩) ly ny).trans (HY.out 3), (hV.cell (p := ⟨w7.heap.size, 4, none⟩) ly ny).trans (HY.out 4), (hV.cell (p := ⟨w7.heap.size, 5, none⟩) ly ny).trans (HY.out 5), (hV.cell (p := ⟨w7.heap.size, 6, none⟩) ly ny).trans (HY.out 6), (hV.cell (p := ⟨w7.heap.size, 7, none⟩) ly ny).trans (HY.out 7), (hV.cell (p := ⟨w7.heap.size, 8, none⟩) ly ny).trans (HY.out 8), (hV.cell (p := ⟨w7.heap.size, 9, none⟩) ly ny).trans (HY.out 9), (hV.cell (p := ⟨w7.heap.size, 10, none⟩) ly ny).trans (HY.out 10), (hV.cell (p := ⟨pb, po + m, none⟩) lp np).trans HPC.out⟩)
                change Code.wp _ _ _ _ (w7.alloc (.cells (x.cells (.slice db x.data.length dd)) 32))
                rw [← hW]
                have hk0 : Keeps D W W.drew := (Keeps.refl D W).drew
                have HT9 := Lib.hid (HT8.out.keeps (Keeps.refl (fun _ => False) W).drew (fun _ _ _ h => h))
                clear HX HY HPC HX7 HT7 HOX HOY hW hxW hyW xp7 HT8
                obtain ⟨⟨d, s2⟩, hsd⟩ : ∃ q, q = sDone s1 p := ⟨_, rfl⟩
                have HDN := Lib.hid (show ∀ V qa qb sb, Both w.heap.size N V qa qb s1 sb → Calls Try.prog 11 #[.pointer (some ⟨qa, 0, none⟩), .int .i64 p] V fun r V' => r = .returned (.int .i64 d) ∧ Both w.heap.size N V' qa qb s2 sb ∧ Keeps D V V' from fun V qa qb sb h => by have := both_done p h; rw [← hsd] at this; rw [hD]; exact this)
                have hpn1 : (m : Int) < (pn : Int) := by omega
                have hpn2 : (0 : Int) ≤ (m : Int) := Int.natCast_nonneg _
                clear hst hsd HP b0 hws6 hsx
                go_region_held3 (fun w' => w'.cell? ⟨w6.heap.size, 0, none⟩ = some (.int .i64 x.cmd) ∧ w'.cell? ⟨w6.heap.size, 1, none⟩ = some (.int .i64 x.tag) ∧ w'.cell? ⟨w6.heap.size, 2, none⟩ = some (.int .i64 x.op) ∧ w'.cell? ⟨w6.heap.size, 3, none⟩ = some (.bool x.ord) ∧ w'.cell? ⟨w6.heap.size, 4, none⟩ = some (.bool x.fua) ∧ w'.cell? ⟨w6.heap.size, 5, none⟩ = some (.int .i64 x.vol) ∧ w'.cell? ⟨w6.heap.size, 6, none⟩ = some (.int .i64 x.lba) ∧ w'.cell? ⟨w6.heap.size, 7, none⟩ = some (.int .i64 x.cnt) ∧ w'.cell? ⟨w6.heap.size, 8, none⟩ = some (.int .i64 x.siz) ∧ w'.cell? ⟨w6.heap.size, 9, none⟩ = some (.int .i64 x.quo) ∧ w'.cell? ⟨w6.heap.size, 10, none⟩ = some (.slice da x.data.length dc) ∧ w'.cell? ⟨w7.heap.size, 0, none⟩ = some (.int .i64 x.cmd) ∧ w'.cell? ⟨w7.heap.size, 1, none⟩ = some (.int .i64 x.tag) ∧ w'.cell? ⟨w7.heap.size, 2, none⟩ = some (.int .i64 x.op) ∧ w'.cell? ⟨w7.heap.size, 3, none⟩ = some (.bool x.ord) ∧ w'.cell? ⟨w7.heap.size, 4, none⟩ = some (.bool x.fua) ∧ w'.cell? ⟨w7.heap.size, 5, none⟩ = some (.int .i64 x.vol) ∧ w'.cell? ⟨w7.heap.size, 6, none⟩ = some (.int .i64 x.lba) ∧ w'.cell? ⟨w7.heap.size, 7, none⟩ = some (.int .i64 x.cnt) ∧ w'.cell? ⟨w7.heap.size, 8, none⟩ = some (.int .i64 x.siz) ∧ w'.cell? ⟨w7.heap.size, 9, none⟩ = some (.int .i64 x.quo) ∧ w'.cell? ⟨w7.heap.size, 10, none⟩ = some (.slice db x.data.length dd) ∧ w'.cell? ⟨pb, po + m, none⟩ = some (.int .i64 p))
                  (first | exact HSS.out _ hk0 | exact HSS.out _ hk1 | exact HSS.out _ hk2 | exact HSS.out _ hk3 | exact HSS.out _ hk5 | exact HSS.out _ hk6 | exact HSS.out _ hk8)
                  (first
                    | (go_at_call 21; refine (HSame.out _ hk0).mono ?_; rintro _ V1 ⟨rfl, hb⟩; have hk1 : Keeps D W V1 := hk0.trans (Keeps.of_below (F := D) hb) (fun _ _ h => h); have HT10 := Lib.hid (HT9.out.below hb); clear hb)
                    | (go_at_call_of 11 (Value.pointer (some ⟨w.heap.size, 0, none⟩)); refine (HDN.out _ _ _ _ HT10.out).mono ?_; rintro _ V2 ⟨rfl, ht, hb⟩; have hk2 : Keeps D W V2 := hk1.trans hb (fun _ _ h => h); have HT11 := Lib.hid ht.swap; clear ht hb)
                    | (go_at_call_of 11 (Value.pointer (some ⟨w1.heap.size, 0, none⟩)); refine (HDN.out _ _ _ _ HT11.out).mono ?_; rintro _ V3 ⟨rfl, ht, hb⟩; have hk3 : Keeps D W V3 := hk2.trans hb (fun _ _ h => h); have HT12 := Lib.hid ht.swap; clear ht hb)
                    | (go_at_call_of 10 (Value.pointer (some ⟨w.heap.size, 0, none⟩)); refine (both_len HT12.out).mono ?_; rintro _ V4 ⟨rfl, rfl⟩)
                    | (go_at_call_of 10 (Value.pointer (some ⟨w1.heap.size, 0, none⟩)); refine (both_len HT12.out.swap).mono ?_; rintro _ V4 ⟨rfl, rfl⟩)
                    | (go_at_call_of 9 (Value.pointer (some ⟨w.heap.size, 0, none⟩)); refine (both_ready HT12.out).mono ?_; rintro _ V5 ⟨v, rfl, ⟨tl, htl, hrd⟩, hb⟩; obtain ⟨va, vc, rfl⟩ := htl.shape; have hk5 : Keeps D W V5 := hk3.trans (Keeps.of_below (F := D) hb) (fun _ _ h => h); have HT13 := Lib.hid (HT12.out.below hb); have HTL := Lib.hid htl; have HRD := Lib.hid hrd; clear hb htl hrd)
                    | (go_at_call_of 9 (Value.pointer (some ⟨w1.heap.size, 0, none⟩)); refine (both_ready HT13.out.swap).mono ?_; rintro _ V6 ⟨v, rfl, ⟨tm, htl, hrd⟩, hb⟩; obtain ⟨vb, vd, rfl⟩ := htl.shape; have hk6 : Keeps D W V6 := hk5.trans (Keeps.of_below (F := D) hb) (fun _ _ h => h); have HT14 := Lib.hid (HT13.out.below hb); have HM := Lib.hid (HTL.out.mine.keeps (Keeps.of_below (F := fun _ => False) hb) (fun _ _ h => h)); have HR := Lib.hid htl.reads; have HRD2 := Lib.hid (HRD.out.trans hrd.symm); have HLN := Lib.hid (show tl.length ≤ 1000000 from by have h1 := sReady_le s2; rw [← HRD.out, List.length_map] at h1; have := HT13.out.lt.2; omega); clear hb htl hrd)
                    | (go_at_call 16; refine (lists_yes _ _ tl tm _ _ V6 HM.out HR.out (fun k h1 h2 => by have := h2.2.1; omega) HRD2.out HLN.out).mono ?_; rintro _ V7 ⟨rfl, hb⟩; have hk8 : Keeps D W V7 := hk6.trans hb (fun k h1 h2 => by have := h2.1; have := hk3.size; omega); have HT15 := Lib.hid (HT14.out.keeps hb (fun k h1 h2 h3 => by have := h3.1; have := hk3.size; omega)); clear hb))
                go_wp2_with fail
                go_roundg (gk - 1)
                case measure => omega
                case rel => exact ⟨m + 1, s2, by go_num, by omega, HT15.out, HB8.out.trans (hk8.below HB8.out.size (fun k h1 h2 => by rw [hD] at h2; have := h2.1; omega))⟩
          case pos =>
            --<A>
            obtain ⟨ob, oo, rfl, hob, xo⟩ := HO.out.at.2 i (by omega)
            have xo := (HB.out.cell (p := ⟨ob, oo + i, none⟩) hob).trans xo
            have e0 : os.getD i false = o i := by rw [HOO.out]
            rw [e0] at xo
            clear e0
            have hio : i < on := by omega
            have ew : IntKind.i64.wrap (100 + (i : Int)) = 100 + (i : Int) := IntWalk.i64_in _ (by omega)
            have hNr := HT.out.lt.1
            have HP1 := Lib.hid (both_put (tkAb o i) (.slice none 0 0) (HT.out.below (allocBelow wr (.cells ((tkAb o i).cells (.slice none 0 0)) 32))) hN (bytes_nil _) (by simp [tkAb]))
            rw [(abA_put o i (by omega)).1, (abA_put o i (by omega)).2] at HP1
            have HBt := Lib.hid (HB.out.trans ((allocBelow wr (.cells ((tkAb o i).cells (.slice none 0 0)) 32)).mono HB.out.size))
            go_upto_region 15 with fail
            go_wp2_with fail
            refine HP1.out.mono ?_
            rintro r w5 ⟨rfl, ht5, hk5⟩
            have hc : ∀ j, w5.cell? ⟨wr.heap.size, j, none⟩ = ((tkAb o i).cells (.slice none 0 0))[j]? := fun j => (hk5.cell (p := ⟨wr.heap.size, j, none⟩) (by simp) (by simp; omega)).trans (World.cell?_alloc_new _ _ _ _)
            have c0 := hc 0
            have c1 := hc 1
            have c2 := hc 2
            have c3 := hc 3
            have c4 := hc 4
            have c5 := hc 5
            have c6 := hc 6
            have c7 := hc 7
            have c8 := hc 8
            have c9 := hc 9
            have c10 := hc 10
            simp only [Tk.cells, tkAb, List.getElem?_cons_zero, List.getElem?_cons_succ, List.getElem?_toArray] at c0 c1 c2 c3 c4 c5 c6 c7 c8 c9 c10
            have HT5 := Lib.hid ht5
            have hs5 := hk5.size
            have HB5 := Lib.hid (HBt.out.trans (hk5.below (B := w.heap.size) HBt.out.size (fun k h1 h2 => by omega)))
            simp only [World.size_alloc] at hs5
            clear hc ht5 hk5 HP1 HBt HB HT ew
            by_cases hik : i = k
            · subst hik
              rw [← abB_skip] at HT5
              go_wp2_with fail
              go_roundg (gk - 1)
              case measure => omega
              case rel => exact ⟨i + 1, _, by go_num, by omega, HT5.out, HB5.out.size, HB5.out⟩
            · have bik : ((i : Int) == (k : Int)) = false := by rw [beq_eq_false_iff_ne]; omega
              have HP2 := Lib.hid (both_put (tkAb o i) (.slice none 0 0) HT5.out.swap HB5.out.size (bytes_nil _) (by simp [tkAb]))
              rw [(abB_put o k i (by omega) hik).1, (abB_put o k i (by omega) hik).2] at HP2
              go_wp2_with fail
              refine HP2.out.mono ?_
              rintro r w6 ⟨rfl, ht6, hk6⟩
              have HT6 := Lib.hid ht6.swap
              have HB6 := Lib.hid (HB5.out.trans (hk6.below (B := w.heap.size) HB5.out.size (fun k h1 h2 => by omega)))
              clear ht6 hk6 HP2 HT5 HB5
              go_wp2_with fail
              go_roundg (gk - 1)
              case measure => omega
              case rel => exact ⟨i + 1, _, by go_num, by omega, HT6.out, HB6.out.size, HB6.out⟩
            --</A>
end Go.Proofs.Ytknjiphgpoifcaa
