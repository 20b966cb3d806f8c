/-
  The document's model: Do: its plain law, and what it leaves.
-/
import Derived.Test.YtmanldcohbegkaaRfDoesC
import Derived.Test.YtmanldcohbegkaaRfSmall
import Derived.Test.YtmanldcohbegkaaRfRefuse
import Derived.Test.YtmanldcohbegkaaMdDo
import Derived.Test.YtmanldcohbegkaaMdTrMath
namespace Go.Proofs.Ytmanldcohbegkaa
open Go.RowKit

theorem refuse_out {S : Mo} {t : Tk} (lost : Bool) (h : t.op < 1 ∨ 10 < t.op) : refuseS S t lost = 50 := by
  unfold refuseS
  rw [if_pos h]
theorem rdo_form (S : Mo) (t : Tk) (status done : Int) (bad lost : Bool) (hb : rtrB t.op status = bad) (hl : (bad && decide (status ≠ 12)) = lost) :
    (refuseS S t lost ≠ 0 ∧ doS S t status done = (⟨t.cmd, t.tag, refuseS S t lost, 0, []⟩, S)) ∨ (refuseS S t lost = 0 ∧ troubleB t.op status = bad ∧ 1 ≤ t.op ∧ t.op ≤ 10) := by
  by_cases ho : t.op < 1 ∨ 10 < t.op
  · left
    rw [refuse_out lost ho]
    refine ⟨by omega, ?_⟩
    rw [doS_form S t status done _ _ rfl rfl, refuse_out _ ho]
    simp
  · have hs := rtr_same (op := t.op) (s := status) (by omega) (by omega)
    rw [hs] at hb
    by_cases hr : refuseS S t lost = 0
    · exact .inr ⟨hr, hb, by omega, by omega⟩
    · refine .inl ⟨hr, ?_⟩
      rw [doS_form S t status done bad lost hb hl, if_pos hr]
theorem change_still {S : Mo} {t : Tk} (h : ¬ (6 ≤ t.op ∧ t.op ≤ 9)) : (changeS S t).2 = S := by
  unfold changeS
  split
  · rfl
  split
  · omega
  split
  · omega
  split
  · omega
  split
  · omega
  split
  · rfl
  · rfl
def RDoPost (w : World) (r : Nat) (lv : Value) (W : Nat → Prop) (t : Tk) (q : Rp × Mo) (e : Ending) (w' : World) : Prop := ∃ x lv' vs' W', e = .returned (.agg (replyCells t q.1.st q.1.dn x)) ∧ Owns w.heap.size w' x q.1.data ∧ RefIs w' r lv' vs' q.2 W' ∧ Keeps (fun y => y = r ∨ lv.ownBlock = some y) w w' ∧ ∀ y, W' y → W y ∨ w.heap.size ≤ y
/-- Where the walk ends: the reply is laid into the result's box. -/
theorem rdo_end {w wc : World} {r : Nat} {lv lv' x : Value} {vs' : List (Vo × Value)} {S' : Mo} {W W' : Nat → Prop} {t : Tk} {s k : Int} {d : List Nat} {q : Rp × Mo} (hR : RefIs wc r lv' vs' S' W') (hrb : CellsAt wc (w.heap.size + 1) #[.int .i64 0, .int .i64 0, .int .i64 0, .int .i64 0, .slice none 0 0] 35) (hk : Keeps (fun y => y = r ∨ lv.ownBlock = some y) w wc)
    (hn : ∀ y, W' y → W y ∨ w.heap.size + 2 ≤ y) (hW : ∀ y, W y → y < w.heap.size) (ho : Owns w.heap.size wc x d) (hq : q = (⟨t.cmd, t.tag, s, k, d⟩, S')) :
    RDoPost w r lv W t q (.returned (.agg (replyCells t s k x))) (((((wc.setCell ⟨w.heap.size + 1, 0, none⟩ (.int .i64 t.cmd)).setCell ⟨w.heap.size + 1, 1, none⟩ (.int .i64 t.tag)).setCell ⟨w.heap.size + 1, 2, none⟩ (.int .i64 s)).setCell ⟨w.heap.size + 1, 3, none⟩ (.int .i64 k)).setCell ⟨w.heap.size + 1, 4, none⟩ x) := by
  have hst := (do_store hrb t s k x).2
  refine ⟨x, lv', vs', W', by rw [hq], ?_, ?_, hk.trans hst (fun y hy e => by omega), fun y hy => (hn y hy).imp id (fun h => by omega)⟩
  · rw [hq]
    refine hst.owns ho (fun g hg e => ?_)
    obtain ⟨cur, hc⟩ := rowBlockT ho hg
    unfold CellsAt at hrb
    rw [e, hrb] at hc
    simp at hc
  · rw [hq]
    exact hR.keeps hst (fun y hy e => by
      rcases hn y hy with h | h
      · have := hW y h; omega
      · omega)
/-- does, as one. -/
theorem rdoes_any (r : Nat) (lv : Value) (vs : List (Vo × Value)) (S : Mo) (W : Nat → Prop) (t : Tk) (dv : Value) (w : World) (h : RefIs w r lv vs S W) (hg : Good S) (hdv : ∃ a n c, dv = .slice a n c) (lost : Bool) (hr : refuseS S t lost = 0) (ho1 : 1 ≤ t.op) (ho2 : t.op ≤ 10) (h3 : t.op ≠ 3) (h5 : t.op ≠ 5) :
    Calls Try.prog 29 #[.pointer (some ⟨r, 0, none⟩), .agg (t.cells dv)] w (DoesPost w r lv S W t) := by
  have hc : t.op = 1 ∨ t.op = 4 ∨ t.op = 2 ∨ t.op = 10 ∨ t.op = 6 ∨ t.op = 7 ∨ t.op = 8 ∨ t.op = 9 := by omega
  rcases hc with h1 | h1 | h1 | h1 | h1 | h1 | h1 | h1
  · exact rdoes_none r lv vs S W t dv w h hg hdv (.inl h1)
  · exact rdoes_none r lv vs S W t dv w h hg hdv (.inr h1)
  · exact rdoes_read r lv vs S W t dv w h hg hdv h1 lost hr
  · exact rdoes_list r lv vs S W t dv w h hg hdv h1
  · exact rdoes_create r lv vs S W t dv w h hg hdv h1 lost hr
  · exact rdoes_snap r lv vs S W t dv w h hg hdv h1 lost hr
  · obtain ⟨i, v, hat⟩ := refuse_at hr (.inr (.inr (.inr h1)))
    exact rdoes_delete r lv vs S W t dv w h hg hdv h1 i v hat
  · obtain ⟨i, v, hat⟩ := refuse_at hr (.inr (.inl h1))
    exact rdoes_resize r lv vs S W t dv w h hg hdv h1 i v hat
end Go.Proofs.Ytmanldcohbegkaa
