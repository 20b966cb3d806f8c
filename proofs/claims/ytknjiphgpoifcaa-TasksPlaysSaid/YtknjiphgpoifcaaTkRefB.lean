/-
  The document's queue: Ready.
-/
import Derived.Test.YtknjiphgpoifcaaTkRefA
import Derived.Test.YtknjiphgpoifcaaTkLists
namespace Go.Proofs.Ytknjiphgpoifcaa
open Go.RowKit

theorem ready_filter (suf : List El) : ∀ (pre : List El), (∀ x ∈ pre, x.t.ord = false) → ((List.range suf.length).map (· + pre.length)).filter (readyAt (pre ++ suf)) = readyFrom pre.length suf := by
  induction suf with
  | nil => intro pre _; rfl
  | cons e suf ih =>
    intro pre hpre
    have hat : (pre ++ e :: suf)[pre.length]? = some e := by simp
    have htk : (pre ++ e :: suf).take pre.length = pre := by simp
    have h0 : readyAt (pre ++ e :: suf) pre.length = (!e.u && pre.all fun x => !(e.t.ord || x.t.ord)) := by rw [readyAt_of _ _ e hat, htk]
    rw [List.length_cons, List.range_succ_eq_map, List.map_cons, List.map_map, List.filter_cons]
    simp only [Nat.zero_add, h0, readyFrom]
    cases ho : e.t.ord with
    | true =>
      have hrest : ((List.range suf.length).map ((fun x => x + pre.length) ∘ Nat.succ)).filter (readyAt (pre ++ e :: suf)) = [] := by
        rw [List.filter_eq_nil_iff]
        intro i hi
        simp only [List.mem_map, List.mem_range, Function.comp_apply] at hi
        obtain ⟨j, hj, rfl⟩ := hi
        have hm : e ∈ (pre ++ e :: suf).take (j.succ + pre.length) := by
          rw [List.mem_iff_getElem?]
          exact ⟨pre.length, by rw [List.getElem?_take, if_pos (by omega)]; exact hat⟩
        unfold readyAt
        split
        · simp
        · rename_i x hx
          simp only [Bool.not_eq_true]
          rw [Bool.and_eq_false_iff]
          right
          rw [List.all_eq_false]
          exact ⟨e, hm, by simp [ho]⟩
      rw [hrest]
      cases pre <;> cases e.u <;> simp
    | false =>
      have hall : (pre.all fun x => !(false || x.t.ord)) = true := by
        rw [List.all_eq_true]
        intro x hx
        simp [hpre x hx]
      have hih := ih (pre ++ [e]) (fun x hx => by
        rcases List.mem_append.1 hx with h | h
        · exact hpre x h
        · obtain rfl : x = e := by simpa using h
          exact ho)
      rw [List.append_assoc, List.singleton_append, List.length_append, List.length_singleton] at hih
      have em : (fun x => x + pre.length) ∘ Nat.succ = (fun x => x + (pre.length + 1)) := by
        funext x; simp only [Function.comp_apply]; omega
      rw [em, hih, hall]
      cases e.u <;> simp
theorem places_filter (l : List El) : (List.range l.length).filter (readyAt l) = placesOf l := by
  have := ready_filter l [] (by simp)
  simpa [placesOf] using this

/-- What is told of the first n places. -/
def tells (l : List El) (n : Nat) : List (Tk × Value) := ((List.range n).filter (readyAt l)).filterMap fun i => l[i]?.map fun e => (e.t, e.dv)
theorem tells_succ (l : List El) (i : Nat) (e : El) (h : l[i]? = some e) : tells l (i + 1) = tells l i ++ if readyAt l i = true then [(e.t, e.dv)] else [] := by
  unfold tells
  rw [List.range_succ, List.filter_append, List.filterMap_append]
  congr 1
  by_cases hr : readyAt l i = true
  · rw [if_pos hr]; simp [hr, h]
  · rw [if_neg hr]; simp [hr]
theorem tells_all (l : List El) : (tells l l.length).map (·.1) = readyOf l := by
  unfold tells readyOf
  rw [places_filter, List.map_filterMap]
  congr 1
  funext i
  cases l[i]? <;> rfl
theorem tells_mem (l : List El) (n : Nat) : ∀ p ∈ tells l n, ∃ e ∈ l, p = (e.t, e.dv) := by
  intro p hp
  unfold tells at hp
  rw [List.mem_filterMap] at hp
  obtain ⟨i, _, h⟩ := hp
  cases he : l[i]? with
  | none => rw [he] at h; simp at h
  | some e =>
    rw [he] at h
    simp at h
    exact ⟨e, List.mem_of_getElem? he, h.symm⟩
theorem tells_length (l : List El) : ∀ n, (tells l n).length ≤ n := by
  intro n
  unfold tells
  have h1 := List.length_filterMap_le (fun i => l[i]?.map fun e => (e.t, e.dv)) ((List.range n).filter (readyAt l))
  have h2 := List.length_filter_le (readyAt l) (List.range n)
  rw [List.length_range] at h2
  omega

theorem Reads.of_own {base : Nat} {w : World} {v : Value} {tl : List (Tk × Value)} {G : Nat → Prop} (h : w.ownsRow base 32 11 v tl.length (tflat tl)) (hG : ∀ k, base ≤ k → G k)
    (hd : ∀ p ∈ tl, BytesAt w p.2 p.1.data ∧ LiesIn p.2 G ∧ p.1.data.length ≤ 140737488355328) : Reads w v tl G := by
  refine ⟨?_, hd⟩
  obtain ⟨a, c, rfl⟩ : ∃ a c, v = .slice a tl.length c := by
    rcases h.2 with ⟨e, h0⟩ | ⟨g, cap, cur, e, _⟩
    · exact ⟨none, 0, by rw [e, h0]⟩
    · exact ⟨_, _, e⟩
  refine ⟨a, c, rfl, fun i p hp => ?_⟩
  have hi : i < tl.length := (List.getElem?_eq_some_iff.1 hp).1
  obtain ⟨g, cap, e, h1, h2⟩ := World.ownsRow.form h (by omega)
  injection e with e1 e2 e3
  subst e1
  refine ⟨g, 0, rfl, hG g h1, h2, fun j hj => ?_⟩
  rw [Nat.zero_add, World.ownsRow.cellAt h _ (by omega), tflat_get tl i p hp j hj]

set_option maxRecDepth 100000 in
set_option maxHeartbeats 3200000 in
theorem rReady_any (q room : Nat) (l : List El) (F : Nat → Prop) (w : World) (h : QAt 65 w q room l F) :
    Calls Try.prog 20 #[.pointer (some ⟨q, 0, none⟩)] w fun e w' => ∃ v, e = .returned v ∧ (∃ tl, Reads w' v tl (fun k => F k ∨ w.heap.size ≤ k) ∧ tl.map (·.1) = readyOf l) ∧ Below w.heap.size w w' := by
  obtain ⟨av, hav, hrow⟩ := h.row
  have hle := h.le
  obtain ⟨ao, cap, rfl⟩ := hrow.shape
  have HR := Lib.hid hrow; clear hrow
  have hqlt := block_lt hav
  simp only at hqlt
  have HV := Lib.hid hav; clear hav
  have HQ := Lib.hid h; clear h
  go_enter Try.func20, Try.ntmps20
  go_wp2_with fail
  go_loopg [3, 4] l.length (fun g s3 s4 wx => ∃ i : Nat, s4 = .int .i64 i ∧ i + g = l.length ∧ wx.ownsRow w.heap.size 32 11 s3 (tells l i).length (tflat (tells l i)) ∧ Below w.heap.size w wx)
  case atStart => exact ⟨0, rfl, by omega, World.ownsRow_nil _ _ _ _, Below.refl _ _⟩
  case round =>
    obtain ⟨i, rfl, hig, hown, hbel⟩ := hrel
    have HO := Lib.hid hown; clear hown
    have HB := Lib.hid hbel; clear hbel
    have xq : wr.cell? ⟨q, 1, none⟩ = some (.slice ao l.length cap) := (HB.out.cell (p := ⟨q, 1, none⟩) hqlt).trans HV.out
    by_cases hi : i < l.length
    case neg =>
      obtain rfl : i = l.length := by omega
      go_wp2_with fail
      go_ret
      refine ⟨_, rfl, ⟨_, Reads.of_own HO.out (fun k hk => .inr hk) (fun p hp => ?_), tells_all l⟩, HB.out⟩
      obtain ⟨e, he, rfl⟩ := tells_mem _ _ p hp
      obtain ⟨d1, d2, d3⟩ := HR.out.data e he
      exact ⟨d1.later HB.out, d3.mono fun k hk => .inl hk.1, d2⟩
    case pos =>
      obtain ⟨e, he⟩ : ∃ e, l[i]? = some e := ⟨l[i], List.getElem?_eq_getElem hi⟩
      obtain ⟨g, cap', e1⟩ := HR.out.form (by omega)
      injection e1 with e1 _ e2
      subst e1; subst e2
      have hgl := HQ.out.lt g (HR.out.blk g rfl).1
      have hsz := HB.out.size
      have HRD := Lib.hid (rready_any q room l F i e wr (HQ.out.below HB.out) he)
      have HS := Lib.hid (tells_succ l i e he)
      have hc : ∀ j, j < 12 → wr.cell? ⟨g, i * 12 + j, none⟩ = e.cells[j]? := fun j hj => (HB.out.cell (p := ⟨g, i * 12 + j, none⟩) hgl).trans (HR.out.cell i e he j hj)
      have q0 := hc 0 (by omega)
      have q1 := hc 1 (by omega)
      have q2 := hc 2 (by omega)
      have q3 := hc 3 (by omega)
      have q4 := hc 4 (by omega)
      have q5 := hc 5 (by omega)
      have q6 := hc 6 (by omega)
      have q7 := hc 7 (by omega)
      have q8 := hc 8 (by omega)
      have q9 := hc 9 (by omega)
      have q10 := hc 10 (by omega)
      clear hc
      have d1 := (HR.out.data e (List.mem_of_getElem? he)).1
      obtain ⟨t, dv, u⟩ := e
      dsimp only at d1 HS
      obtain ⟨da, dc, rfl, _⟩ := d1.form
      clear d1 he
      simp only [El.cells, List.getElem?_cons_zero, List.getElem?_cons_succ, Nat.add_zero] at q0 q1 q2 q3 q4 q5 q6 q7 q8 q9 q10
      have hlen := tells_length l i
      go_wp2_with fail
      refine HRD.out.mono ?_
      rintro r w2 ⟨rfl, rfl⟩
      by_cases hr : readyAt l i = true
      · rw [hr]
        rw [if_pos hr] at HS
        obtain ⟨i0, hi0, hz0, hz1, hz2⟩ := info_parts Try.info_task
        clear HRD
        go_wp2_with (at_builtin; refine wpList_append_lies _ rfl (.tmp 17) (.tmp 26) 33 rfl w.heap.size 32 i0 _ 11 96 Try.underlying33 hi0 hz0 hz1 hz2 rfl (by omega) u3 (tells l i).length (tflat (tells l i)) rfl (World.ownsRow.alloc HO.out _) ⟨wr.heap.size, 0, none⟩ 1 1 (t.cells (.slice da t.data.length dc)).toList rfl rfl (World.news_of_block (cs := t.cells (.slice da t.data.length dc)) (t := 32) (fr := (0, 0)) (heap_alloc_new wr _)) (by simp [Tk.cells, Value.oneCell']) (by omega) (by unfold maxLen; omega) (by omega) (by simp; omega) (wr.heap.size + 1) (by simp) ?_; intro g4 cap4 w4 hown4 hgrow hat hlt4)
        go_roundg (gk - 1)
        case measure => omega
        case rel =>
          refine ⟨i + 1, by go_num, by omega, ?_, (HB.out.alloc (by omega) _).grown hgrow (by simp; omega) (fun k hk => (World.ownsRow.lt HO.out k hk).1)⟩
          rw [HS.out, List.length_append, List.length_singleton, tflat_append]
          simpa [tflat] using hown4
      · rw [Bool.not_eq_true] at hr
        rw [hr]
        rw [hr, if_neg (by simp), List.append_nil] at HS
        clear HRD
        go_wp2_with fail
        go_roundg (gk - 1)
        case measure => omega
        case rel => exact ⟨i + 1, by go_num, by omega, by rw [HS.out]; exact HO.out, HB.out⟩
end Go.Proofs.Ytknjiphgpoifcaa
