/-
  lists: of two lists that tell the same tasks.
-/
import Derived.Test.YtknjiphgpoifcaaTkSame
import Derived.Test.YtknjiphgpoifcaaTkTake
import Derived.StillTailTactics
namespace Go.Proofs.Ytknjiphgpoifcaa
open Go.RowKit

/-- A list of tasks that lies within G. -/
structure Reads (w : World) (v : Value) (tl : List (Tk × Value)) (G : Nat → Prop) : Prop where
  row : ∃ a c, v = .slice a tl.length c ∧ ∀ i p, tl[i]? = some p → ∃ b o, a = some ⟨b, o, none⟩ ∧ G b ∧ b < w.heap.size ∧ ∀ j, j < 11 → w.cell? ⟨b, o + i * 11 + j, none⟩ = (p.1.cells p.2)[j]?
  data : ∀ p ∈ tl, BytesAt w p.2 p.1.data ∧ LiesIn p.2 G ∧ p.1.data.length ≤ 140737488355328
theorem Reads.keeps {F G : Nat → Prop} {w w' : World} {v : Value} {tl : List (Tk × Value)} (h : Reads w v tl G) (hk : Keeps F w w') (hF : ∀ k, G k → ¬ F k) : Reads w' v tl G := by
  obtain ⟨a, c, e, hr⟩ := h.row
  refine ⟨⟨a, c, e, fun i p hp => ?_⟩, fun p hp => ?_⟩
  · obtain ⟨b, o, e1, e2, e3, e4⟩ := hr i p hp
    exact ⟨b, o, e1, e2, Nat.lt_of_lt_of_le e3 hk.size, fun j hj => (hk.cell (p := ⟨b, o + i * 11 + j, none⟩) e3 (hF b e2)).trans (e4 j hj)⟩
  · obtain ⟨h1, h2, h3⟩ := h.data p hp
    exact ⟨h1.keeps hk (h2.mono hF), h2, h3⟩
/-- A list of tasks whose row lies outside of D, and whose bytes are the call's own, in D, no two in one block. -/
structure Mine (w : World) (v : Value) (tl : List (Tk × Value)) (D : Nat → Prop) : Prop where
  row : ∃ a c, v = .slice a tl.length c ∧ ∀ i p, tl[i]? = some p → ∃ b o, a = some ⟨b, o, none⟩ ∧ ¬ D b ∧ b < w.heap.size ∧ ∀ j, j < 11 → w.cell? ⟨b, o + i * 11 + j, none⟩ = (p.1.cells p.2)[j]?
  data : ∀ p ∈ tl, Owns 0 w p.2 p.1.data ∧ p.1.data.length ≤ 140737488355328 ∧ ∀ k, p.2.ownBlock = some k → D k
  apart : tl.Pairwise fun p p' => ∀ k, p.2.ownBlock = some k → p'.2.ownBlock ≠ some k
theorem Told.mine {base : Nat} {w : World} {v : Value} {tl : List (Tk × Value)} (h : Told base w v tl) : Mine w v tl fun k => base ≤ k ∧ k < w.heap.size ∧ some k ≠ v.ownBlock := by
  refine ⟨?_, fun p hp => ?_, h.apart⟩
  · obtain ⟨a, c, rfl⟩ := h.shape
    refine ⟨a, c, rfl, fun i p hp => ?_⟩
    have hi : i < tl.length := (List.getElem?_eq_some_iff.1 hp).1
    obtain ⟨g, cap, e, h1, h2⟩ := World.ownsRow.form h.own (by omega)
    injection e with e1 e2 e3
    subst e1
    refine ⟨g, 0, rfl, fun hh => hh.2.2 rfl, h2, fun j hj => ?_⟩
    rw [Nat.zero_add, World.ownsRow.cellAt h.own _ (by omega), tflat_get tl i p hp j hj]
  · obtain ⟨h1, h2, h3⟩ := h.data p hp
    exact ⟨ownsRow_mono h1 (Nat.zero_le _), h2, fun k e => ⟨(World.ownsRow.lt h1 k e).1, (World.ownsRow.lt h1 k e).2, h3 k e⟩⟩

theorem Mine.keeps {F D : Nat → Prop} {w w' : World} {v : Value} {tl : List (Tk × Value)} (h : Mine w v tl D) (hk : Keeps F w w') (hF : ∀ k, k < w.heap.size → ¬ F k) : Mine w' v tl D := by
  obtain ⟨a, c, e, hr⟩ := h.row
  refine ⟨⟨a, c, e, fun i p hp => ?_⟩, fun p hp => ?_, h.apart⟩
  · obtain ⟨b, o, e1, e2, e3, e4⟩ := hr i p hp
    exact ⟨b, o, e1, e2, Nat.lt_of_lt_of_le e3 hk.size, fun j hj => (hk.cell (p := ⟨b, o + i * 11 + j, none⟩) e3 (hF b e3)).trans (e4 j hj)⟩
  · obtain ⟨h1, h2, h3⟩ := h.data p hp
    exact ⟨h1.keeps hk (fun k e => hF k (World.ownsRow.lt h1 k e).2), h2, h3⟩

theorem Owns.cellNo {base : Nat} {w : World} {g n cap : Nat} {l : List Nat} (h : Owns base w (.slice (some ⟨g, 0, none⟩) n cap) l) (j : Nat) (hj : j < l.length) : w.cell? ⟨g, j, none⟩ = some (.int .u8 (l.getD j 0 : Nat)) := by
  have hn := h.bytes.length
  subst hn
  exact (World.ownsRow.cellAt h j (by omega)).trans (byteCells_get l j hj)
theorem Owns.freeNo {base : Nat} {w : World} {g n cap : Nat} {l : List Nat} (h : Owns base w (.slice (some ⟨g, 0, none⟩) n cap) l) (j : Nat) : w.frozen? ⟨g, j, none⟩ = false := by
  have hn := h.bytes.length
  subst hn
  exact World.ownsRow.frozenAt h j
theorem Owns.set {base : Nat} {w : World} {g n cap : Nat} {l : List Nat} (h : Owns base w (.slice (some ⟨g, 0, none⟩) n cap) l) (j y : Nat) : Owns base (w.setCell ⟨g, j, none⟩ (.int .u8 (y : Int))) (.slice (some ⟨g, 0, none⟩) n cap) (l.set j y) := by
  have hn := h.bytes.length
  subst hn
  have := World.ownsRow.stored h j (.int .u8 (y : Int))
  unfold Owns
  rw [List.length_set]
  have e : byteCells (l.set j y) = (byteCells l).set j (.int .u8 (y : Int)) := by simp [byteCells]
  rw [e]
  exact this.1
/-- What is owned in another block stays behind a store. -/
theorem Owns.setOther {base : Nat} {w : World} {v : Value} {l : List Nat} (h : Owns base w v l) {p : Addr} (hp : v.ownBlock ≠ some p.block) (u : Value) : Owns base (w.setCell p u) v l :=
  h.keeps (F := (· = p.block)) (Keeps.setCell (Keeps.refl (· = p.block) w) (p := p) (fun _ => rfl) u) (fun k e hk => hp (by rw [e, hk]))
theorem pairwise_drop {α : Type} {R : α → α → Prop} {l : List α} (h : l.Pairwise R) : ∀ (i : Nat) (p : α), l[i]? = some p → ∀ q ∈ l.drop (i + 1), R p q := by
  induction l with
  | nil => intro i p hp; simp at hp
  | cons x l ih =>
    intro i p hp q hq
    rw [List.pairwise_cons] at h
    cases i with
    | zero =>
      simp at hp
      subst hp
      exact h.1 q (by simpa using hq)
    | succ i => exact ih h.2 i p (by simpa using hp) q (by simpa using hq)

set_option maxRecDepth 100000 in
set_option maxHeartbeats 6400000 in
theorem lists_yes (va vb : Value) (tla tlb : List (Tk × Value)) (D G : Nat → Prop) (w : World) (ha : Mine w va tla D) (hb : Reads w vb tlb G) (hGD : ∀ k, G k → ¬ D k) (hsame : tla.map (·.1) = tlb.map (·.1)) (hn : tla.length ≤ 1000000) :
    Calls Try.prog 16 #[va, vb] w fun e w' => e = .returned (.bool true) ∧ Keeps D w w' := by
  have hlen : tlb.length = tla.length := by have := congrArg List.length hsame; simpa using this.symm
  obtain ⟨aa, ac, rfl, hra⟩ := ha.row
  obtain ⟨ba, bc, rfl, hrb⟩ := hb.row
  rw [hlen]
  have HA := Lib.hid ha; clear ha
  have HB := Lib.hid hb; clear hb
  have HRA := Lib.hid hra; clear hra
  have HRB := Lib.hid hrb; clear hrb
  have HGD := Lib.hid hGD; clear hGD
  have HS := Lib.hid hsame; clear hsame
  have HL := Lib.hid hlen; clear hlen
  obtain ⟨n, hnn⟩ : ∃ n, n = tla.length := ⟨_, rfl⟩
  rw [← hnn] at hn ⊢
  have HN := Lib.hid hnn; clear hnn
  go_enter Try.func16, Try.ntmps16
  go_wp2_with fail
  go_loopg [5, 6] n (fun g s5 s6 wx => s5 = .bool true ∧ ∃ i : Nat, s6 = .int .i64 i ∧ i + g = n ∧ Keeps D w wx ∧ ∀ p ∈ tla.drop i, Owns 0 wx p.2 p.1.data)
  case atStart => exact ⟨rfl, 0, rfl, by omega, Keeps.refl _ _, fun p hp => (HA.out.data p (by simpa using hp)).1⟩
  case round =>
    obtain ⟨rfl, i, rfl, hig, hkp, hdr⟩ := hrel
    have HK := Lib.hid hkp; clear hkp
    have HD := Lib.hid hdr; clear hdr
    by_cases hi : i < n
    case neg =>
      go_wp2_with fail
      go_ret
      exact ⟨rfl, HK.out⟩
    case pos =>
      obtain ⟨pa, hpa⟩ : ∃ pa, tla[i]? = some pa := ⟨tla[i]'(by rw [← HN.out]; exact hi), List.getElem?_eq_getElem _⟩
      obtain ⟨pb, hpb⟩ : ∃ pb, tlb[i]? = some pb := ⟨tlb[i]'(by rw [HL.out, ← HN.out]; exact hi), List.getElem?_eq_getElem _⟩
      have hst : pa.1 = pb.1 := by
        have h1 := congrArg (fun l => l[i]?) HS.out
        simp only [List.getElem?_map, hpa, hpb, Option.map_some, Option.some.injEq] at h1
        exact h1
      obtain ⟨t, da⟩ := pa
      obtain ⟨t', db⟩ := pb
      simp only at hst
      subst hst
      obtain ⟨b, o, rfl, hbD, hbl, hbc⟩ := HRA.out i _ hpa
      obtain ⟨b', o', rfl, hbG, hbl', hbc'⟩ := HRB.out i _ hpb
      obtain ⟨hda, hdl, hdD⟩ := HA.out.data _ (List.mem_of_getElem? hpa)
      obtain ⟨hdb, hdbG, _⟩ := HB.out.data _ (List.mem_of_getElem? hpb)
      dsimp only at hda hdl hdD hdb hdbG
      have hown : Owns 0 wr da t.data := HD.out (t, da) (by
        rw [List.mem_iff_getElem?]
        exact ⟨0, by rw [List.getElem?_drop]; exact hpa⟩)
      obtain ⟨daa, dac, rfl, _⟩ := hown.bytes.form
      obtain ⟨dba, dbc, rfl, _⟩ := hdb.form
      obtain ⟨W, hW⟩ : ∃ W, W = wr.drew := ⟨_, rfl⟩
      have KW := Lib.hid (show Keeps D w W by rw [hW]; exact HK.out.drew)
      have hca : ∀ j, j < 11 → W.cell? ⟨b, o + i * 11 + j, none⟩ = (t.cells (.slice daa t.data.length dac))[j]? := fun j hj => (KW.out.cell (p := ⟨b, o + i * 11 + j, none⟩) hbl hbD).trans (hbc j hj)
      have hcb : ∀ j, j < 11 → W.cell? ⟨b', o' + i * 11 + j, none⟩ = (t.cells (.slice dba t.data.length dbc))[j]? := fun j hj => (KW.out.cell (p := ⟨b', o' + i * 11 + j, none⟩) hbl' (HGD.out _ hbG)).trans (hbc' j hj)
      have hbe : o + i * 11 + 0 = o + i * 11 := by omega
      have p0 := hca 0 (by omega)
      have p1 := hca 1 (by omega)
      have p2 := hca 2 (by omega)
      have p3 := hca 3 (by omega)
      have p4 := hca 4 (by omega)
      have p5 := hca 5 (by omega)
      have p6 := hca 6 (by omega)
      have p7 := hca 7 (by omega)
      have p8 := hca 8 (by omega)
      have p9 := hca 9 (by omega)
      have p10 := hca 10 (by omega)
      have q0 := hcb 0 (by omega)
      have q1 := hcb 1 (by omega)
      have q2 := hcb 2 (by omega)
      have q3 := hcb 3 (by omega)
      have q4 := hcb 4 (by omega)
      have q5 := hcb 5 (by omega)
      have q6 := hcb 6 (by omega)
      have q7 := hcb 7 (by omega)
      have q8 := hcb 8 (by omega)
      have q9 := hcb 9 (by omega)
      have q10 := hcb 10 (by omega)
      simp only [Tk.cells, List.getElem?_cons_zero, List.getElem?_cons_succ, List.getElem?_toArray, Nat.add_zero] at p0 p1 p2 p3 p4 p5 p6 p7 p8 p9 p10 q0 q1 q2 q3 q4 q5 q6 q7 q8 q9 q10
      have HDD := Lib.hid (show ∀ k, (Value.slice daa t.data.length dac).ownBlock = some k → D k from hdD); clear hdD
      have HAP := Lib.hid (show ∀ p ∈ tla.drop (i + 1), ∀ k, (Value.slice daa t.data.length dac).ownBlock = some k → p.2.ownBlock ≠ some k from pairwise_drop HA.out.apart i _ hpa)
      have HOW := Lib.hid (show Owns 0 W (.slice daa t.data.length dac) t.data by rw [hW]; exact hown.keeps (F := fun _ => False) (Keeps.refl _ _).drew (fun _ _ h => h))
      have HSm := Lib.hid (same_yes t (.slice daa t.data.length dac) (.slice dba t.data.length dbc) W HOW.out.bytes (hdb.keeps KW.out (hdbG.mono fun k h => HGD.out k h)) hdl)
      clear hca hcb hbc hbc' hda hdb hdbG hown
      have HPA := Lib.hid hpa; clear hpa
      have HPB := Lib.hid hpb; clear hpb
      unfold Tk.cells at HSm
      go_upto_region 5 with fail
      refine still_tail 10 (by kernel_rfl) (by kernel_rfl) W hW ?_
      have hWr := Lib.hid hW; clear hW
      simp only [List.take_succ_cons, List.take_zero, List.drop_succ_cons, List.drop_zero]
      repeat still_step
      refine wpStill_nil ?_
      go_wp2_with fail
      refine HSm.out.mono ?_
      rintro r w5 ⟨rfl, hb5⟩
      have K5 := Lib.hid (show Keeps D w w5 from KW.out.trans (Keeps.of_below (F := D) hb5) (fun _ _ h => h))
      have HO5 := Lib.hid (HOW.out.keeps (F := fun _ => False) (Keeps.of_below hb5) (fun _ _ h => h))
      have HR5 := Lib.hid (show ∀ p ∈ tla.drop (i + 1), Owns 0 w5 p.2 p.1.data from fun p hp => by
        have h0 := HD.out p (List.mem_of_mem_drop (i := 1) (by rw [List.drop_drop]; exact hp))
        have h1 : Owns 0 W p.2 p.1.data := by rw [hWr.out]; exact h0.keeps (F := fun _ => False) (Keeps.refl _ _).drew (fun _ _ h => h)
        exact h1.keeps (F := fun _ => False) (Keeps.of_below hb5) (fun _ _ h => h))
      clear hb5 HSm p0 p1 p2 p3 p4 p5 p6 p7 p8 p9 p10 q0 q1 q2 q3 q4 q5 q6 q7 q8 q9 q10
      have p10 : ∀ V, Keeps D w V → V.cell? ⟨b, o + i * 11 + 10, none⟩ = some (.slice daa t.data.length dac) := fun V hV => by
        have := (HRA.out i _ HPA.out)
        obtain ⟨b2, o2, e2, _, _, hc⟩ := this
        injection e2 with e2
        injection e2 with e3 e4
        subst e3 e4
        exact (hV.cell (p := ⟨b, o + i * 11 + 10, none⟩) hbl hbD).trans (hc 10 (by omega))
      have P10 := Lib.hid p10; clear p10
      go_upto_region 7 with fail
      obtain ⟨gk1, hgk1⟩ : ∃ x, x = gk := ⟨_, rfl⟩
      go_loopg [7] t.data.length (fun g s7 wx => ∃ m : Nat, s7 = .int .i64 m ∧ m + g = t.data.length ∧ (∃ l' : List Nat, l'.length = t.data.length ∧ Owns 0 wx (.slice daa t.data.length dac) l') ∧ Keeps D w wx ∧ ∀ p ∈ tla.drop (i + 1), Owns 0 wx p.2 p.1.data)
      case atStart => exact ⟨0, rfl, by omega, ⟨_, rfl, HO5.out⟩, K5.out, HR5.out⟩
      case round =>
        obtain ⟨m, rfl, hmg, ⟨l', hl', ho'⟩, hk', hr'⟩ := hrel
        have hc := P10.out _ hk'
        have HOX := Lib.hid ho'; clear ho'
        have HKX := Lib.hid hk'; clear hk'
        have HRX := Lib.hid hr'; clear hr'
        by_cases hm : m < t.data.length
        case neg =>
          go_wp2_with fail
          go_roundg (gk1 - 1)
          case measure => omega
          case rel => exact ⟨rfl, i + 1, by go_num, by omega, HKX.out, HRX.out⟩
        case pos =>
          obtain ⟨g0, e0⟩ : ∃ g0, daa = some ⟨g0, 0, none⟩ := by
            rcases HOX.out.2 with ⟨_, h0⟩ | ⟨g, cap, cur, e, _⟩
            · omega
            · injection e with e1
              exact ⟨g, e1⟩
          subst e0
          have hfr := HOX.out.freeNo m
          have hcl := HOX.out.cellNo m (by omega)
          go_wp2_with fail
          go_roundg (gk - 1)
          case measure => omega
          case rel =>
            refine ⟨m + 1, by go_num, by omega, ⟨l'.set m 99, by simpa using hl', HOX.out.set m 99⟩, ?_, fun p hp => ?_⟩
            · exact HKX.out.setCell (fun _ => HDD.out g0 rfl) _
            · exact (HRX.out p hp).setOther (HAP.out p hp g0 rfl) _
end Go.Proofs.Ytknjiphgpoifcaa
