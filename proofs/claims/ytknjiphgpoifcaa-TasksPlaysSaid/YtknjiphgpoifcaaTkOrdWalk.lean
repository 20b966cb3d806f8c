/-
  The walk of TasksOrder.
-/
import Derived.Test.YtknjiphgpoifcaaTkOrdMath
import Derived.Deep.CutBlock
import Derived.Deep.LoopGhost
import Derived.Deep.DeepCutAuto
namespace Go.Proofs.Ytknjiphgpoifcaa
open Go.RowKit

/-- A slice of bools reads as a list. -/
def BoolsAt (w : World) (v : Value) (l : List Bool) : Prop := ∃ a c, v = .slice a l.length c ∧ ∀ i, i < l.length → ∃ b o, a = some ⟨b, o, none⟩ ∧ b < w.heap.size ∧ w.cell? ⟨b, o + i, none⟩ = some (.bool (l.getD i false))
/-- A slice of ints reads as a list. -/
def IntsAt (w : World) (v : Value) (l : List Int) : Prop := ∃ a c, v = .slice a l.length c ∧ ∀ i, i < l.length → ∃ b o, a = some ⟨b, o, none⟩ ∧ b < w.heap.size ∧ w.cell? ⟨b, o + i, none⟩ = some (.int .i64 (l.getD i 0))
theorem BoolsAt.at {w : World} {a : Option Addr} {n c : Nat} {l : List Bool} (h : BoolsAt w (.slice a n c) l) : n = l.length ∧ ∀ i, i < n → ∃ b o, a = some ⟨b, o, none⟩ ∧ b < w.heap.size ∧ w.cell? ⟨b, o + i, none⟩ = some (.bool (l.getD i false)) := by
  obtain ⟨a', c', e, hc⟩ := h
  injection e with e1 e2 e3
  subst e1 e2
  exact ⟨rfl, hc⟩
theorem IntsAt.at {w : World} {a : Option Addr} {n c : Nat} {l : List Int} (h : IntsAt w (.slice a n c) l) : n = l.length ∧ ∀ i, i < n → ∃ b o, a = some ⟨b, o, none⟩ ∧ b < w.heap.size ∧ w.cell? ⟨b, o + i, none⟩ = some (.int .i64 (l.getD i 0)) := by
  obtain ⟨a', c', e, hc⟩ := h
  injection e with e1 e2 e3
  subst e1 e2
  exact ⟨rfl, hc⟩
/-- The states, in block B. -/
structure StAt (w : World) (B : Nat) (st : Nat → Nat) : Prop where
  lt : B < w.heap.size
  cell : ∀ n, n < 64 → w.cell? ⟨B, n, none⟩ = some (.int .i64 (st n : Nat))
  free : ∀ n, w.frozen? ⟨B, n, none⟩ = false
theorem StAt.keeps {w w' : World} {B : Nat} {st : Nat → Nat} {F : Nat → Prop} (h : StAt w B st) (hk : Keeps F w w') (hF : ¬ F B) : StAt w' B st :=
  ⟨Nat.lt_of_lt_of_le h.lt hk.size, fun n hn => (hk.cell (p := ⟨B, n, none⟩) h.lt hF).trans (h.cell n hn), fun n => (hk.frozen (p := ⟨B, n, none⟩) h.lt hF).trans (h.free n)⟩
theorem StAt.set {w : World} {B : Nat} {st : Nat → Nat} (h : StAt w B st) (n v : Nat) (hn : n < 64) : StAt (w.setCell ⟨B, n, none⟩ (.int .i64 (v : Nat))) B (upd st n v) := by
  refine ⟨by simpa using h.lt, fun m hm => ?_, fun m => by rw [World.frozen?_setCell]; exact h.free m⟩
  by_cases e : m = n
  · subst e
    rw [World.cell?_setCell_same _ _ _ (by rw [h.cell m hm])]
    simp [upd]
  · have hne : (⟨B, n, none⟩ : Addr) ≠ ⟨B, m, none⟩ := by simp <;> exact fun h => e h.symm
    rw [World.cell?_setCell_other _ _ _ _ hne]
    simp only [upd, if_neg e]
    exact h.cell m hm

set_option maxRecDepth 100000 in
set_option maxHeartbeats 6400000 in
theorem order_any (oa pa : Option Addr) (on oc pn pc : Nat) (os : List Bool) (ps : List Int) (w : World) (ho : BoolsAt w (.slice oa on oc) os) (hp : IntsAt w (.slice pa pn pc) ps) (hon : on ≤ maxLen) (hpn : pn ≤ maxLen) :
    Calls Try.prog 3 #[.slice oa on oc, .slice pa pn pc] w fun e w' => e = .returned (.bool true) ∧ Below w.heap.size w w' := by
  unfold maxLen at hon hpn
  have HO := Lib.hid ho; clear ho
  have HP := Lib.hid hp; clear hp
  have HN := Lib.hid (que_new 8 w (by decide) (by decide))
  go_enter Try.func3, Try.ntmps3
  go_wp2_with fail
  refine HN.out.mono ?_
  rintro r w1 ⟨rfl, hq, hb⟩
  have hlt := hq.lt.1
  have HQ := Lib.hid hq
  have HB := Lib.hid hb
  clear hq hb HN
  go_wp2_with fail
  refine (known_any w1).mono ?_
  rintro r w2 ⟨rfl, hb⟩
  have HQ2 := Lib.hid (HQ.out.below hb)
  have HB2 := Lib.hid (HB.out.trans (hb.mono (by omega)))
  have hs2 := hb.size
  clear hb HQ HB
  obtain ⟨o, hoo⟩ : ∃ o : Nat → Bool, o = fun n => os.getD n false := ⟨_, rfl⟩
  have HOO := Lib.hid hoo; clear hoo
  obtain ⟨G, hGe⟩ : ∃ G : Nat → Prop, G = fun k => w.heap.size ≤ k ∧ k ≠ w2.heap.size := ⟨_, rfl⟩
  have HG := Lib.hid hGe; clear hGe
  have HQ2 := Lib.hid (HQ2.out.mono (H := G) fun k h1 h2 => by rw [HG.out]; exact ⟨h2, by omega⟩)
  have HG1 := Lib.hid (show ¬ G w2.heap.size by rw [HG.out]; exact fun h => h.2 rfl)
  have HG2 := Lib.hid (show ∀ k, w2.heap.size < k → G k by rw [HG.out]; exact fun k h => ⟨by omega, by omega⟩)
  have HG3 := Lib.hid (show ∀ k, G k → w.heap.size ≤ k by rw [HG.out]; exact fun k h => h.1)
  clear HG
  go_wp2_with fail
  go_loopg [6, 8, 9] pn (fun g s6 s8 s9 wx => ∃ (next un k : Nat) (st : Nat → Nat), s6 = .int .i64 next ∧ s8 = .int .i64 un ∧ s9 = .int .i64 k ∧ k + g = pn ∧ next ≤ on ∧ Inv o st next un ∧ StAt wx w2.heap.size st ∧ Que 58 wx w.heap.size 8 (sOf o st next) G ∧ Below w.heap.size w wx)
  case atStart =>
    refine ⟨0, 0, 0, fun _ => 0, rfl, rfl, rfl, by omega, by omega, Inv.start o, ⟨by simp, fun n hn => ?_, fun n => by simp⟩, HQ2.out.below (allocBelow w2 _), HB2.out.trans ((allocBelow w2 _).mono HB2.out.size)⟩
    rw [World.cell?_alloc_new]
    exact rep_get 64 n (.int .i64 0) hn
  case round =>
    obtain ⟨next, un, k, st, rfl, rfl, rfl, hkg, hno, hinv, hst, hque, hbel⟩ := hrel
    have HI := Lib.hid hinv; clear hinv
    have HS := Lib.hid hst; clear hst
    have HQ := Lib.hid hque; clear hque
    have HB := Lib.hid hbel; clear hbel
    by_cases hk : k < pn
    case neg =>
      go_wp2
      go_ret
      exact ⟨rfl, HB.out⟩
    case pos =>
      go_upto_block 1 with fail
      go_cut [6, 8, 4, 10, 11, 12, 13, 14, 15, 16] from 24 to 183 (fun s6 s8 _ _ _ _ _ _ _ _ wx => ∃ (next un : Nat) (st : Nat → Nat), s6 = .int .i64 next ∧ s8 = .int .i64 un ∧ next ≤ on ∧ Inv o st next un ∧ StAt wx w2.heap.size st ∧ Que 58 wx w.heap.size 8 (sOf o st next) G ∧ Below w.heap.size w wx)
      case rest =>
        obtain ⟨next, un, st, rfl, rfl, hno, hinv, hst, hque, hbel⟩ := hcut
        have HI := Lib.hid hinv; clear hinv
        have HS := Lib.hid hst; clear hst
        have HQ := Lib.hid hque; clear hque
        have HB := Lib.hid hbel; clear hbel
        go_wp2_with fail
        go_roundg (gk - 1)
        case measure => omega
        case rel => exact ⟨next, un, k + 1, st, rfl, rfl, by go_num, by omega, hno, HI.out, HS.out, HQ.out, HB.out⟩
      case first =>
        go_upto_block 2 with fail
        go_cut [6] (fun s6 wx => ∃ (next : Nat) (st : Nat → Nat), s6 = .int .i64 next ∧ next ≤ on ∧ Inv o st next un ∧ StAt wx w2.heap.size st ∧ Que 58 wx w.heap.size 8 (sOf o st next) G ∧ Below w.heap.size w wx)
        case first =>
          go_wp2_with fail
          --<A>
          go_loopg [6] (64 - next) (fun g s6 wx => ∃ (next : Nat) (st : Nat → Nat), s6 = .int .i64 next ∧ next + g = 64 ∧ next ≤ on ∧ Inv o st next un ∧ StAt wx w2.heap.size st ∧ Que 58 wx w.heap.size 8 (sOf o st next) G ∧ Below w.heap.size w wx)
          case atStart => exact ⟨next, st, rfl, by have := HI.out.le; omega, hno, HI.out, HS.out, HQ.out, HB.out⟩
          case round =>
            clear HI HS HQ HB hno
            obtain ⟨next, st, rfl, hg, hno, hinv, hst, hque, hbel⟩ := hrel
            have HI := Lib.hid hinv; clear hinv
            have HS := Lib.hid hst; clear hst
            have HQ := Lib.hid hque; clear hque
            have HB := Lib.hid hbel; clear hbel
            by_cases h1 : next < on
            case neg =>
              go_wp2_with fail
              go_meet
              exact ⟨next, st, rfl, hno, HI.out, HS.out, HQ.out, HB.out⟩
            case pos =>
              by_cases h2 : next < 64
              case neg =>
                go_wp2_with fail
                go_meet
                exact ⟨next, st, rfl, hno, HI.out, HS.out, HQ.out, HB.out⟩
              case pos =>
                obtain ⟨ob, oo, rfl, hob, xo⟩ := HO.out.at.2 next h1
                have xo := (HB.out.cell (p := ⟨ob, oo + next, none⟩) hob).trans xo
                have e0 : os.getD next false = o next := by rw [HOO.out]
                rw [e0] at xo
                clear e0
                have HP3 := Lib.hid (que_put w.heap.size 8 _ G (tkOf o next) (.slice none 0 0) wr HQ.out (bytes_nil _) (by simp [tkOf]) (fun k hk => HG2.out k (by have := HS.out.lt; omega)))
                rw [Inv.putE] at HP3
                by_cases h8 : 8 ≤ (sOf o st next).length
                · have ep : sPut 8 (sOf o st next) (tkOf o next) = sOf o st next := by unfold sPut; rw [Inv.putE, if_pos h8]; rfl
                  rw [if_pos h8, ep] at HP3
                  clear ep h8
                  go_wp2_with fail
                  refine HP3.out.mono ?_
                  rintro r w3 ⟨rfl, hq3, hb3⟩
                  have HQ3 := Lib.hid hq3
                  have HS3 := Lib.hid (HS.out.keeps hb3 HG1.out)
                  have HB3 := Lib.hid (HB.out.trans (hb3.below (B := w.heap.size) HB.out.size (fun k h1 h2 => by have := HG3.out k h2; omega)))
                  clear hq3 hb3 HP3 HQ HS HB
                  go_wp2_with fail
                  go_meet
                  exact ⟨next, st, rfl, hno, HI.out, HS3.out, HQ3.out, HB3.out⟩
                · have ep : sPut 8 (sOf o st next) (tkOf o next) = sOf o st next ++ [(tkOf o next, false)] := by unfold sPut; rw [Inv.putE, if_neg h8]; rfl
                  rw [if_neg h8, ep, ← (HI.out.put h2).2] at HP3
                  clear ep h8
                  have HI3 := Lib.hid (HI.out.put h2).1
                  go_wp2_with fail
                  refine HP3.out.mono ?_
                  rintro r w3 ⟨rfl, hq3, hb3⟩
                  have HQ3 := Lib.hid hq3
                  have HS3 := Lib.hid (HS.out.keeps hb3 HG1.out)
                  have HB3 := Lib.hid (HB.out.trans (hb3.below (B := w.heap.size) HB.out.size (fun k h1 h2 => by have := HG3.out k h2; omega)))
                  have x3 := HS3.out.cell next h2
                  have f3 := HS3.out.free next
                  clear hq3 hb3 HP3 HQ HS HB
                  go_wp2_with fail
                  go_roundg (gk - 1)
                  case measure => omega
                  case rel =>
                    exact ⟨next + 1, upd st next 1, by go_num, by omega, by omega, HI3.out, HS3.out.set next 1 h2, HQ3.out.keeps (H := (· = w2.heap.size)) (Keeps.setCell (F := (· = w2.heap.size)) (Keeps.refl _ _) (p := ⟨w2.heap.size, next, none⟩) (fun _ => rfl) _) (fun k _ hk e => HG1.out (e ▸ hk)), HB3.out.setCell (by simp; omega) _⟩
          --</A>
        case rest =>
          clear HI HS HQ HB hno
          obtain ⟨next, st, rfl, hno, hinv, hst, hque, hbel⟩ := hcut
          have HI := Lib.hid hinv; clear hinv
          have HS := Lib.hid hst; clear hst
          have HQ := Lib.hid hque; clear hque
          have HB := Lib.hid hbel; clear hbel
          go_wp2_with fail
          refine (que_ready w.heap.size 8 _ G _ HQ.out).mono ?_
          rintro r w3 ⟨v, rfl, ⟨tl, htl, hrd⟩, hb⟩
          obtain ⟨va, vc, rfl⟩ := htl.shape
          have hM : tl.length = (sReady (sOf o st next)).length := by rw [← hrd, List.length_map]
          have hM8 : tl.length ≤ 8 := by rw [hM]; exact Nat.le_trans (sReady_le _) HQ.out.lt.2.2
          have HM := Lib.hid hM; clear hM hrd htl
          generalize tl.length = M at *
          have HS := Lib.hid (HS.out.keeps (Keeps.of_below (F := fun _ => False) hb) (fun h => h))
          have HB := Lib.hid (HB.out.trans (hb.mono HB.out.size))
          have HQ := Lib.hid (HQ.out.below hb)
          clear hb
          go_upto_region 14 with fail
          go_cut [66] (fun c wx => c = .bool false ∧ wx = w3)
          case first =>
            --<A>
            go_wp2_with fail
            refine (que_len _ _ _ _ _ _ HQ.out).mono ?_
            rintro r w4 ⟨rfl, rfl⟩
            have hp : un = 0 → 0 < (sOf o st next).length → 0 < M := by
              rintro rfl hs
              rw [HM.out]
              exact HI.out.some_ready hs
            generalize (sOf o st next).length = ln at *
            by_cases h0 : 0 < ln
            · by_cases h1 : un = 0
              · have h2 := hp h1 h0
                have b1 : ((un : Int) == 0) = true := by simp [h1]
                have b2 : ((M : Int) == 0) = false := by rw [beq_eq_false_iff_ne]; omega
                clear hp h1 h2
                go_wp2_with fail
                go_meet
                exact ⟨rfl, rfl⟩
              · have b1 : ((un : Int) == 0) = false := by rw [beq_eq_false_iff_ne]; omega
                clear hp h1
                go_wp2_with fail
                go_meet
                exact ⟨rfl, rfl⟩
            · clear hp
              go_wp2_with fail
              go_meet
              exact ⟨rfl, rfl⟩
            --</A>
          case rest =>
            obtain ⟨rfl, rfl⟩ := hcut
            obtain ⟨pb, po, rfl, hpb, xp⟩ := HP.out.at.2 k hk
            have xp := (HB.out.cell (p := ⟨pb, po + k, none⟩) hpb).trans xp
            generalize ps.getD k 0 = p at *
            go_upto_region 16 with fail
            go_cut [76] (fun c wx => (∃ b : Bool, c = .bool b ∧ (b = true → 0 < un)) ∧ wx = wc)
            case first =>
              --<A>
              by_cases h3 : p.tmod 3 = 0
              · have b0 : (p.tmod 3 == 0) = true := by simp [h3]
                clear h3
                by_cases h4 : 0 < un
                · go_wp2_with fail
                  go_meet
                  exact ⟨⟨true, rfl, fun _ => h4⟩, rfl⟩
                · go_wp2_with fail
                  go_meet
                  exact ⟨⟨false, rfl, fun h => by cases h⟩, rfl⟩
              · have b0 : (p.tmod 3 == 0) = false := by simp [h3]
                clear h3
                go_wp2_with fail
                go_meet
                exact ⟨⟨false, rfl, fun h => by cases h⟩, rfl⟩
              --</A>
            case rest =>
              obtain ⟨⟨b, rfl, hun⟩, hw⟩ := hcut
              cases b with
              | true =>
                have hun0 : 0 < un := hun (by simp)
                clear hun
                --<A>
                have hun8 : un ≤ 64 := by rw [HI.out.cnt]; exact Nat.le_trans (cnt_le _ _) HI.out.le
                have w1' : IntKind.i64.wrap ((un : Int) - 1) = ((un - 1 : Nat) : Int) := by rw [IntWalk.i64_in _ (by omega)]; omega
                subst hw
                go_wp2_with fail
                go_loopg [11] 64 (fun g s11 wx => wx = wc ∧ ∃ n : Nat, s11 = .int .i64 n ∧ n + g = 64 ∧ ∀ m, m < n → st m ≠ 2)
                case atStart => exact ⟨rfl, 0, rfl, by omega, fun m h => by omega⟩
                case round =>
                  obtain ⟨hw, n, rfl, hng, hno2⟩ := hrel
                  subst hw
                  obtain ⟨n0, hn0, hs0⟩ := cnt_pos st next (by rw [← HI.out.cnt]; exact hun0)
                  have hn64 : n < 64 := by
                    have h64 := HI.out.le
                    rcases Nat.lt_or_ge n0 n with h | h
                    · exact absurd hs0 (hno2 n0 h)
                    · omega
                  have HN := Lib.hid hno2
                  clear hno2 hn0 hs0 n0
                  have xs := HS.out.cell n hn64
                  by_cases h2 : st n = 2
                  case neg =>
                    have b2 : ((st n : Int) != 2) = true := by rw [bne_iff_ne]; omega
                    go_wp2_with fail
                    go_roundg (gk - 1)
                    case measure => omega
                    case rel => exact ⟨rfl, n + 1, by go_num, by omega, fun m hm => by
                      rcases Nat.lt_or_eq_of_le (Nat.lt_succ_iff.1 hm) with h | h
                      · exact HN.out m h
                      · exact h ▸ h2⟩
                  case pos =>
                    have hnn : n < next := by
                      rcases Nat.lt_or_ge n next with h | h
                      · exact h
                      · have := HI.out.zero n h; omega
                    have hdone := HI.out.done hnn h2
                    have HD := Lib.hid (que_done w.heap.size 8 _ G (n : Int) _ HQ.out)
                    rw [hdone.1] at HD
                    have HI3 := Lib.hid hdone.2.2
                    clear hdone
                    rw [h2] at xs
                    clear h2
                    go_wp2_with fail
                    refine HD.out.mono ?_
                    rintro r w3 ⟨rfl, hq3, hb3⟩
                    have HQ3 := Lib.hid (hq3.mono fun k _ h => h.1)
                    have HS3 := Lib.hid (HS.out.keeps hb3 HG1.out)
                    have HB3 := Lib.hid (HB.out.trans (hb3.below (B := w.heap.size) HB.out.size (fun k h1 h2 => by have := HG3.out k h2; omega)))
                    have x3 := HS3.out.cell n hn64
                    have f3 := HS3.out.free n
                    clear hq3 hb3 HD xs
                    go_wp2_with fail
                    go_meet
                    exact ⟨next, un - 1, upd st n 3, rfl, by go_num, hno, HI3.out, HS3.out.set n 3 hn64, HQ3.out.keeps (H := (· = w2.heap.size)) (Keeps.setCell (F := (· = w2.heap.size)) (Keeps.refl _ _) (p := ⟨w2.heap.size, n, none⟩) (fun _ => rfl) _) (fun k _ hk e => HG1.out (e ▸ hk)), HB3.out.setCell (by simp; omega) _⟩
                --</A>
              | false =>
                clear hun
                subst hw
                go_upto_if 100 with fail
                go_cut [12] (fun c wy => (∃ kk : Nat, c = .int .i64 kk ∧ kk ≤ M) ∧ wy = wc)
                case first =>
                  --<A>
                  have q1 := tmod_bounds p (M + 1) (by omega)
                  have e1 : ((M + 1 : Nat) : Int) = (M : Int) + 1 := by omega
                  rw [e1] at q1
                  obtain ⟨q1, q2⟩ := q1
                  clear e1
                  generalize p.tmod ((M : Int) + 1) = q at *
                  by_cases hq : q < 0
                  · have ew : IntKind.i64.wrap (q + (M : Int)) = q + (M : Int) := IntWalk.i64_in _ (by omega)
                    have ew2 : IntKind.i64.wrap (q + (M : Int) + 1) = q + (M : Int) + 1 := IntWalk.i64_in _ (by omega)
                    go_wp2_with fail
                    go_meet
                    exact ⟨⟨(q + M + 1).toNat, by congr 1; omega, by omega⟩, rfl⟩
                  · go_wp2_with fail
                    go_meet
                    exact ⟨⟨q.toNat, by congr 1; omega, by omega⟩, rfl⟩
                  --</A>
                case rest =>
                  obtain ⟨⟨kk, rfl, hkk⟩, hw⟩ := hcut
                  subst hw
                  clear xp
                  by_cases hkM : kk < M
                  case neg =>
                    --<A>
                    have et := sTake_no (sOf o st next) (kk : Int) (.inr (by rw [← HM.out]; omega))
                    have HT := Lib.hid (que_take w.heap.size 8 _ G (kk : Int) _ HQ.out)
                    rw [et] at HT
                    clear et
                    go_wp2_with fail
                    refine HT.out.mono ?_
                    rintro r w4 ⟨dv, rfl, hown, _, hq4, hb4⟩
                    obtain ⟨da, dc, rfl, _⟩ := (Owns.bytes hown).form
                    have HQ4 := Lib.hid (hq4.mono fun k _ h => h.1)
                    have HS4 := Lib.hid (HS.out.keeps hb4 HG1.out)
                    have HB4 := Lib.hid (HB.out.trans (hb4.below (B := w.heap.size) HB.out.size (fun k h1 h2 => by have := HG3.out k h2; omega)))
                    clear hown hq4 hb4 HT
                    simp only [Tk.cells, tkZero]
                    go_wp2_with fail
                    go_meet
                    exact ⟨next, un, st, rfl, rfl, hno, HI.out, HS4.out.keeps (Keeps.of_below (F := fun _ => False) (allocBelow w4 _)) (fun h => h), HQ4.out.below (allocBelow w4 _), HB4.out.trans ((allocBelow w4 _).mono HB4.out.size)⟩
                    --</A>
                  case pos =>
                    obtain ⟨n, hn, hs1, het, hI2, hah, hbe⟩ := HI.out.take (k := kk) (by rw [← HM.out]; exact hkM)
                    have HT := Lib.hid (que_take w.heap.size 8 _ G (kk : Int) _ HQ.out)
                    rw [het] at HT
                    have HI2 := Lib.hid hI2
                    have HA := Lib.hid hah
                    have HE := Lib.hid hbe
                    have H1 := Lib.hid hs1
                    clear het hI2 hah hbe hs1
                    go_wp2_with fail
                    refine HT.out.mono ?_
                    rintro r w4 ⟨dv, rfl, hown, _, hq4, hb4⟩
                    obtain ⟨da, dc, rfl, _⟩ := (Owns.bytes hown).form
                    have HQ4 := Lib.hid (hq4.mono fun k _ h => h.1)
                    have HS4 := Lib.hid (HS.out.keeps hb4 HG1.out)
                    have HB4 := Lib.hid (HB.out.trans (hb4.below (B := w.heap.size) HB.out.size (fun k h1 h2 => by have := HG3.out k h2; omega)))
                    clear hown hq4 hb4 HT
                    simp only [Tk.cells, tkOf]
                    go_upto_region 28 with fail
                    have hsz4 : w4.heap.size < (w4.alloc (.cells #[.int .i64 (n : Int), .int .i64 0, .int .i64 0, .bool (o n), .bool false, .int .i64 0, .int .i64 0, .int .i64 0, .int .i64 0, .int .i64 0, .slice da 0 dc] 32)).heap.size := by simp
                    have c0 : (w4.alloc (.cells #[.int .i64 (n : Int), .int .i64 0, .int .i64 0, .bool (o n), .bool false, .int .i64 0, .int .i64 0, .int .i64 0, .int .i64 0, .int .i64 0, .slice da 0 dc] 32)).cell? ⟨w4.heap.size, 0, none⟩ = some (.int .i64 (n : Int)) := by simp
                    have c3 : (w4.alloc (.cells #[.int .i64 (n : Int), .int .i64 0, .int .i64 0, .bool (o n), .bool false, .int .i64 0, .int .i64 0, .int .i64 0, .int .i64 0, .int .i64 0, .slice da 0 dc] 32)).cell? ⟨w4.heap.size, 3, none⟩ = some (.bool (o n)) := by simp
                    have HW5 := Lib.hid (allocBelow w4 (.cells #[.int .i64 (n : Int), .int .i64 0, .int .i64 0, .bool (o n), .bool false, .int .i64 0, .int .i64 0, .int .i64 0, .int .i64 0, .int .i64 0, .slice da 0 dc] 32))
                    generalize (w4.alloc (.cells #[.int .i64 (n : Int), .int .i64 0, .int .i64 0, .bool (o n), .bool false, .int .i64 0, .int .i64 0, .int .i64 0, .int .i64 0, .int .i64 0, .slice da 0 dc] 32)) = W5 at *
                    have HS5 := Lib.hid (HS4.out.keeps (Keeps.of_below (F := fun _ => False) HW5.out) (fun h => h))
                    have HQ5 := Lib.hid (HQ4.out.below HW5.out)
                    have HB5 := Lib.hid (HB4.out.trans (HW5.out.mono HB4.out.size))
                    have hB4 := HS4.out.lt
                    have hn64 : n < 64 := by have := HI.out.le; omega
                    have xs := HS5.out.cell n hn64
                    rw [H1.out] at xs
                    clear HQ4 HS4 HB4 HW5 HQ HS HB
                    have hnm : decide (next ≤ n) = false := by simp; omega
                    have hnz : decide ((n : Int) < 0) = false := by simp
                    go_wp2_with fail
                    have hun8 : un ≤ 64 := by rw [HI.out.cnt]; exact Nat.le_trans (cnt_le _ _) HI.out.le
                    have hn8 : next ≤ 64 := HI.out.le
                    obtain ⟨wo, hwo⟩ : ∃ wo : World, wo = W5 := ⟨_, rfl⟩
                    subst hwo
                    go_loopg [15] n (fun g s15 wx => wx = wo ∧ ∃ m : Nat, s15 = .int .i64 m ∧ m + g = n)
                    case atStart => exact ⟨rfl, 0, rfl, by omega⟩
                    case round =>
                      obtain ⟨hw, m, rfl, hmg⟩ := hrel
                      subst hw
                      by_cases hm : m < n
                      case pos =>
                        have xm := HS5.out.cell m (by omega)
                        obtain ⟨ob, oo, rfl, hob, xo⟩ := HO.out.at.2 m (by omega)
                        have xo := (HB5.out.cell (p := ⟨ob, oo + m, none⟩) hob).trans xo
                        have e0 : os.getD m false = o m := by rw [HOO.out]
                        rw [e0] at xo
                        clear e0
                        have hmo : m < on := by omega
                        by_cases h3 : st m = 3
                        · rw [h3] at xm
                          go_wp2_with fail
                          go_roundg (gk - 1)
                          case measure => omega
                          case rel => exact ⟨rfl, m + 1, by go_num, by omega⟩
                        · have b3 : ((st m : Int) != 3) = true := by rw [bne_iff_ne]; omega
                          obtain ⟨om, on'⟩ := HA.out m hm h3
                          rw [om] at xo
                          rw [on'] at c3
                          clear om on'
                          go_wp2_with fail
                          go_roundg (gk - 1)
                          case measure => omega
                          case rel => exact ⟨rfl, m + 1, by go_num, by omega⟩
                      case neg =>
                        obtain rfl : m = n := by omega
                        go_wp2_with fail
                        obtain ⟨wo2, hwo⟩ : ∃ wo2 : World, wo2 = wr := ⟨_, rfl⟩
                        subst hwo
                        go_loopg [16] (next - (m + 1)) (fun g s16 wx => wx = wo2 ∧ ∃ j : Nat, s16 = .int .i64 j ∧ m < j ∧ j + g = next)
                        case atStart => exact ⟨rfl, m + 1, by go_num, by omega, by omega⟩
                        case round =>
                          obtain ⟨hw, j, rfl, hmj, hjg⟩ := hrel
                          subst hw
                          by_cases hj : j < next
                          case pos =>
                            have xm := HS5.out.cell j (by omega)
                            obtain ⟨ob, oo, rfl, hob, xo⟩ := HO.out.at.2 j (by omega)
                            have xo := (HB5.out.cell (p := ⟨ob, oo + j, none⟩) hob).trans xo
                            have e0 : os.getD j false = o j := by rw [HOO.out]
                            rw [e0] at xo
                            clear e0
                            have hjo : j < on := by omega
                            have hj64 : j < 64 := by omega
                            by_cases h2 : 2 ≤ st j
                            · obtain ⟨oj, om⟩ := HE.out j hmj hj h2
                              rw [oj] at xo
                              rw [om] at c3
                              clear oj om
                              go_wp2_with fail
                              go_roundg (gk - 1)
                              case measure => omega
                              case rel => exact ⟨rfl, j + 1, by go_num, by omega, by omega⟩
                            · go_wp2_with fail
                              go_roundg (gk - 1)
                              case measure => omega
                              case rel => exact ⟨rfl, j + 1, by go_num, by omega, by omega⟩
                          case neg =>
                            have f5 := HS5.out.free m
                            have ew : IntKind.i64.wrap ((un : Int) + 1) = ((un + 1 : Nat) : Int) := by rw [IntWalk.i64_in _ (by omega)]; omega
                            go_wp2_with fail
                            go_meet
                            exact ⟨next, un + 1, upd st m 2, rfl, by go_num, hno, HI2.out, HS5.out.set m 2 hn64, HQ5.out.keeps (H := (· = w2.heap.size)) (Keeps.setCell (F := (· = w2.heap.size)) (Keeps.refl _ _) (p := ⟨w2.heap.size, m, none⟩) (fun _ => rfl) _) (fun k _ hk e => HG1.out (e ▸ hk)), HB5.out.setCell (by simp; omega) _⟩
end Go.Proofs.Ytknjiphgpoifcaa
