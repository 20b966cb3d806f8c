/-
  known.
-/
import Derived.Test.YtknjiphgpoifcaaTkModel
namespace Go.Proofs.Ytknjiphgpoifcaa
open Go.RowKit

theorem bytes_nil (w : World) : BytesAt w (.slice none 0 0) [] := Owns.bytes (base := 0) (World.ownsRow_nil _ _ _ _)
theorem Told.shape {base : Nat} {w : World} {v : Value} {tl : List (Tk × Value)} (h : Told base w v tl) : ∃ a cap, v = .slice a tl.length cap := by
  rcases h.own.2 with ⟨e, h0⟩ | ⟨g, cap, cur, e, _⟩
  · exact ⟨none, 0, by rw [e, h0]⟩
  · exact ⟨_, _, e⟩
def tk56 : Tk := ⟨5, 6, 0, false, false, 0, 0, 0, 0, 0, []⟩
theorem kn_put : sPutE 2 [] tk56 = 0 ∧ sPut 2 [] tk56 = [(tk56, false)] := ⟨by rfl, by rfl⟩
theorem kn_ready : sReady [(tk56, false)] = [tk56] := by rfl
theorem kn_take : sTake [(tk56, false)] 0 = (tk56, 0, [(tk56, true)]) := by rfl
theorem kn_done : sDone [(tk56, true)] 5 = (0, []) := by rfl

set_option maxRecDepth 100000 in
set_option maxHeartbeats 3200000 in
theorem known_any (w : World) : Calls Try.prog 7 #[] w fun e w' => e = .returned (.bool true) ∧ Below w.heap.size w w' := by
  have HN := Lib.hid (que_new 2 w (by decide) (by decide))
  go_enter Try.func7, Try.ntmps7
  go_wp2_with fail
  refine HN.out.mono ?_
  rintro r w1 ⟨rfl, hq, hb⟩
  have hlt := hq.lt.1
  have HP := Lib.hid (que_put w.heap.size 2 [] _ tk56 (.slice none 0 0) w1 hq (bytes_nil _) (by simp [tk56]) (fun k hk => by omega))
  have HB := Lib.hid hb; clear hb hq
  go_wp2_with fail
  refine HP.out.mono ?_
  rintro r w2 ⟨rfl, hq, hb⟩
  rw [kn_put.2] at hq
  rw [kn_put.1]
  have hr := que_ready w.heap.size 2 _ _ w2 hq
  have HB2 := Lib.hid (HB.out.trans (hb.below (B := w.heap.size) (by omega) (fun k h1 h2 => by omega)))
  have HQ := Lib.hid hq; clear hb hq HB HP
  have HR := Lib.hid hr; clear hr
  go_wp2_with fail
  refine HR.out.mono ?_
  rintro r w3 ⟨v, rfl, ⟨tl, htl, hrd⟩, hb⟩
  rw [kn_ready] at hrd
  have htlen : tl.length = 1 := by rw [← List.length_map (f := (·.1)), hrd]; rfl
  obtain ⟨va, vc, rfl⟩ := htl.shape
  rw [htlen]
  clear htl
  have hq := HQ.out.below hb
  have HT := Lib.hid (que_take w.heap.size 2 _ _ 0 w3 hq)
  have hlt2 := HQ.out.lt.1
  have HB3 := Lib.hid (HB2.out.trans (hb.mono (by omega)))
  clear HQ HB2 HR hb hrd
  go_wp2_with fail
  refine HT.out.mono ?_
  rintro r w4 ⟨dv, rfl, ho, _, hq4, hb4⟩
  rw [kn_take] at hq4 ho
  rw [kn_take]
  obtain ⟨da, dc, rfl, _⟩ := (Owns.bytes ho).form
  have HQ4 := Lib.hid hq4
  have HB4 := Lib.hid (HB3.out.trans (hb4.below (B := w.heap.size) (by have := HB3.out.size; omega) (fun k h1 h2 => by omega)))
  have hs4 := hb4.size
  clear ho hq4 hb4 HT HB3 hq
  simp only [Tk.cells, tk56]
  go_wp2_with fail
  have HQ5 := Lib.hid (HQ4.out.below (allocBelow w4 (.cells #[.int .i64 5, .int .i64 6, .int .i64 0, .bool false, .bool false, .int .i64 0, .int .i64 0, .int .i64 0, .int .i64 0, .int .i64 0, .slice da 0 dc] 32)))
  refine (que_len _ _ _ _ _ _ HQ5.out).mono ?_
  rintro r w5 ⟨rfl, rfl⟩
  have HD := Lib.hid (que_done _ _ _ _ 5 _ HQ5.out)
  clear HQ5 HQ4
  go_wp2_with fail
  refine HD.out.mono ?_
  rintro r w6 ⟨rfl, hq6, hb6⟩
  rw [kn_done] at hq6
  rw [kn_done]
  have HB6 := Lib.hid ((HB4.out.trans ((allocBelow w4 (.cells #[.int .i64 5, .int .i64 6, .int .i64 0, .bool false, .bool false, .int .i64 0, .int .i64 0, .int .i64 0, .int .i64 0, .int .i64 0, .slice da 0 dc] 32)).mono HB4.out.size)).trans (hb6.below (B := w.heap.size) (by have := HB4.out.size; simp; omega) (fun k h1 h2 => by omega)))
  have HQ6 := Lib.hid hq6
  clear hq6 hb6 HD
  go_wp2_with fail
  refine (que_len _ _ _ _ _ _ HQ6.out).mono ?_
  rintro r w7 ⟨rfl, rfl⟩
  go_wp2_with fail
  go_ret
  exact ⟨rfl, HB6.out⟩
end Go.Proofs.Ytknjiphgpoifcaa
