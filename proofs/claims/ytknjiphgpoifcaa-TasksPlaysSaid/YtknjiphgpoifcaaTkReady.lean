/-
  Ready: the tasks that are ready, each with bytes of its own.
-/
import Derived.Test.YtknjiphgpoifcaaTkPlaces
import Derived.Test.YtknjiphgpoifcaaTkPut
namespace Go.Proofs.Ytknjiphgpoifcaa
open Go.RowKit

def tflat (l : List (Tk × Value)) : List Value := l.flatMap fun p => (p.1.cells p.2).toList
theorem tcells_length (t : Tk) (dv : Value) : (t.cells dv).toList.length = 11 := rfl
theorem tflat_append (a b : List (Tk × Value)) : tflat (a ++ b) = tflat a ++ tflat b := by simp [tflat]
theorem tflat_length (l : List (Tk × Value)) : (tflat l).length = l.length * 11 := by
  induction l with
  | nil => rfl
  | cons e l ih =>
    show ((e.1.cells e.2).toList ++ tflat l).length = _
    rw [List.length_append, ih, tcells_length, List.length_cons]; omega
theorem tflat_get (l : List (Tk × Value)) (k : Nat) (e : Tk × Value) (h : l[k]? = some e) (j : Nat) (hj : j < 11) : (tflat l)[k * 11 + j]? = (e.1.cells e.2)[j]? := by
  induction l generalizing k with
  | nil => simp at h
  | cons x l ih =>
    show ((x.1.cells x.2).toList ++ tflat l)[k * 11 + j]? = _
    cases k with
    | zero =>
      simp at h
      subst h
      rw [List.getElem?_append_left (by rw [tcells_length]; omega)]
      simp
    | succ k =>
      rw [List.getElem?_append_right (by rw [tcells_length]; omega), tcells_length]
      have : (k + 1) * 11 + j - 11 = k * 11 + j := by omega
      rw [this]
      exact ih k (by simpa using h)

/-- A list of tasks that was told: in new memory from base on, each task's bytes too, no two share any. -/
structure Told (base : Nat) (w : World) (v : Value) (tl : List (Tk × Value)) : Prop where
  own : w.ownsRow base 32 11 v tl.length (tflat tl)
  data : ∀ p ∈ tl, Owns base w p.2 p.1.data ∧ p.1.data.length ≤ 140737488355328 ∧ ∀ k, p.2.ownBlock = some k → some k ≠ v.ownBlock
  apart : tl.Pairwise fun p p' => ∀ k, p.2.ownBlock = some k → p'.2.ownBlock ≠ some k

theorem Told.nil (base : Nat) (w : World) : Told base w (.slice none 0 0) [] := ⟨World.ownsRow_nil _ _ _ _, fun p hp => by simp at hp, List.Pairwise.nil⟩
theorem Owns.keeps {F : Nat → Prop} {w w' : World} {base : Nat} {v : Value} {l : List Nat} (h : Owns base w v l) (hk : Keeps F w w') (hF : ∀ k, v.ownBlock = some k → ¬ F k) : Owns base w' v l := hk.owns h hF
theorem Told.keeps {F : Nat → Prop} {base : Nat} {w w' : World} {v : Value} {tl : List (Tk × Value)} (h : Told base w v tl) (hk : Keeps F w w') (hF : ∀ k, base ≤ k → ¬ F k) : Told base w' v tl :=
  ⟨hk.owns h.own (fun k e => hF k (World.ownsRow.lt h.own k e).1), fun p hp => by
    obtain ⟨h1, h2, h3⟩ := h.data p hp
    exact ⟨h1.keeps hk (fun k e => hF k (h1.from k e).1), h2, h3⟩, h.apart⟩
theorem ownsRow_mono {w : World} {base base' : Nat} {e : TypeId} {size n : Nat} {v : Value} {xs : List Value} (h : w.ownsRow base e size v n xs) (hb : base' ≤ base) : w.ownsRow base' e size v n xs := by
  refine ⟨h.1, ?_⟩
  rcases h.2 with hn | ⟨g, cap, cur, rfl, hbg, rest⟩
  · exact .inl hn
  · exact .inr ⟨g, cap, cur, rfl, by omega, rest⟩
theorem Told.mono {base base' : Nat} {w : World} {v : Value} {tl : List (Tk × Value)} (h : Told base w v tl) (hb : base' ≤ base) : Told base' w v tl :=
  ⟨ownsRow_mono h.own hb, fun p hp => by
    obtain ⟨h1, h2, h3⟩ := h.data p hp
    exact ⟨h1.mono hb, h2, h3⟩, h.apart⟩
/-- What is told, once more by one task. -/
theorem Told.snoc {base g cap n : Nat} {w W w4 : World} {v : Value} {tl : List (Tk × Value)} {t : Tk} {dv : Value} {o : Obj} (h : Told base w v tl) (hb : Below w.heap.size w W) (hbase : base ≤ w.heap.size)
    (hd : Owns w.heap.size W dv t.data) (hdl : t.data.length ≤ 140737488355328) (hn : n = tl.length + 1)
    (hgrow : (W.alloc o).grownBy w4 v.ownBlock) (hown : w4.ownsRow base 32 11 (.slice (some ⟨g, 0, none⟩) n cap) n (tflat tl ++ (t.cells dv).toList)) (hat : v.ownBlock = some g ∨ g = W.heap.size + 1) :
    Told base w4 (.slice (some ⟨g, 0, none⟩) n cap) (tl ++ [(t, dv)]) ∧ Below base W w4 := by
  subst hn
  have hsz := hb.size
  have hrow := World.ownsRow.lt h.own
  have K4 : Keeps (fun k => some k = v.ownBlock) W w4 := ((Keeps.refl _ _).alloc o).trans (Keeps.of_grown hgrow (fun k hk => hk.symm)) (fun _ _ h => h)
  have KW : Keeps (fun _ => False) w W := Keeps.of_below hb
  refine ⟨⟨?_, ?_, ?_⟩, K4.below (by omega) (fun x hx e => by have := (hrow x e.symm).1; omega)⟩
  · simpa [tflat_append, tflat] using hown
  · intro p hp
    rcases List.mem_append.1 hp with hp | hp
    · obtain ⟨h1, h2, h3⟩ := h.data p hp
      refine ⟨(h1.keeps KW (fun _ _ h => h)).keeps K4 (fun k e => h3 k e), h2, fun k hk hkg => ?_⟩
      simp only [Value.ownBlock, Option.some.injEq] at hkg
      have := (h1.from k hk).2
      rcases hat with h' | h'
      · exact h3 k hk (by rw [h', hkg])
      · omega
    · obtain rfl : p = (t, dv) := by simpa using hp
      have hno : ∀ k, dv.ownBlock = some k → some k ≠ v.ownBlock := fun k e e2 => by
        have h1 := (hd.from k e).1
        have h2 := (hrow k e2.symm).2
        omega
      refine ⟨(hd.mono hbase).keeps K4 (fun k e => hno k e), hdl, fun k hk hkg => ?_⟩
      simp only [Value.ownBlock, Option.some.injEq] at hkg
      have h1 := hd.from k hk
      rcases hat with h' | h'
      · have h2 := (hrow g h').2
        omega
      · omega
  · refine List.pairwise_append.2 ⟨h.apart, List.pairwise_singleton _ _, fun p hp p' hp' k hk e => ?_⟩
    obtain rfl : p' = (t, dv) := by simpa using hp'
    have h1 := ((h.data p hp).1.from k hk).2
    have h2 := (hd.from k e).1
    omega

theorem Try.info_task : (Try.prog.info? 32).map (fun i => (i.zero, i.size, i.bytes)) = some (some (.agg taskZero), 11, 96) := by kernel_rfl
theorem readyFrom_lt (l : List El) : ∀ i k, k ∈ readyFrom i l → i ≤ k ∧ k < i + l.length := by
  induction l with
  | nil => intro i k h; simp [readyFrom] at h
  | cons e l ih =>
    intro i k h
    simp only [readyFrom] at h
    split at h
    · split at h
      · simp at h; subst h; simp
      · simp at h
    · split at h
      · rcases List.mem_cons.1 h with h | h
        · subst h; simp
        · have := ih _ _ h; simp; omega
      · have := ih _ _ h; simp; omega
theorem placesOf_lt {l : List El} {k : Nat} (h : k ∈ placesOf l) : k < l.length := by have := readyFrom_lt l 0 k h; omega
theorem readyFrom_length (l : List El) : ∀ i, (readyFrom i l).length ≤ l.length := by
  induction l with
  | nil => intro i; simp [readyFrom]
  | cons e l ih =>
    intro i
    simp only [readyFrom]
    split
    · split <;> simp
    · split
      · have := ih (i + 1); simp; omega
      · have := ih (i + 1); simp; omega
/-- The tasks that are ready. -/
def readyOf (l : List El) : List Tk := (placesOf l).filterMap fun i => l[i]?.map (·.t)
theorem readyOf_take (l : List El) (k i : Nat) (e : El) (h : (placesOf l)[k]? = some i) (he : l[i]? = some e) :
    ((placesOf l).take (k + 1)).filterMap (fun i => l[i]?.map (·.t)) = ((placesOf l).take k).filterMap (fun i => l[i]?.map (·.t)) ++ [e.t] := by
  obtain ⟨hlt, hh⟩ := List.getElem?_eq_some_iff.1 h
  rw [List.take_succ_eq_append_getElem hlt, List.filterMap_append, hh]
  simp [he]
theorem OwnsInts.shape {base : Nat} {w : World} {v : Value} {l : List Nat} (h : OwnsInts base w v l) : ∃ a cap, v = .slice a l.length cap := by
  rcases h.2 with ⟨e, h0⟩ | ⟨g, cap, cur, e, _⟩
  · exact ⟨none, 0, by rw [e, h0]⟩
  · exact ⟨_, _, e⟩
theorem OwnsInts.at {base : Nat} {w : World} {a : Option Addr} {n cap : Nat} {l : List Nat} (h : OwnsInts base w (.slice a n cap) l) (k i : Nat) (hk : l[k]? = some i) : ∃ g, a = some ⟨g, 0, none⟩ ∧ base ≤ g ∧ g < w.heap.size ∧ w.cell? ⟨g, k, none⟩ = some (.int .i64 (i : Int)) := by
  have hlt : k < l.length := (List.getElem?_eq_some_iff.1 hk).1
  obtain ⟨g, cap', e, h1, h2⟩ := World.ownsRow.form h (by omega)
  injection e with e1 e2 e3
  subst e1; subst e2; subst e3
  refine ⟨g, rfl, h1, h2, (World.ownsRow.cellAt h k (by omega)).trans ?_⟩
  simp [intCells, hk]

set_option maxRecDepth 100000 in
set_option maxHeartbeats 3200000 in
theorem ready_any (q room : Nat) (l : List El) (F : Nat → Prop) (w : World) (h : QAt 58 w q room l F) :
    Calls Try.prog 9 #[.pointer (some ⟨q, 0, none⟩)] w fun e w' => ∃ v, e = .returned v ∧ (∃ tl, Told w.heap.size w' v tl ∧ tl.map (·.1) = readyOf l) ∧ Below w.heap.size w w' := by
  obtain ⟨av, hav, hrow⟩ := h.row
  have hle := h.le
  obtain ⟨ao, cap, rfl⟩ := hrow.shape
  have HR := Lib.hid hrow; clear hrow
  have HP := Lib.hid (places_any q room l F w h)
  have hqlt := block_lt hav
  simp only at hqlt
  have HV := Lib.hid hav; clear hav
  have HQ := Lib.hid h; clear h
  go_enter Try.func9, Try.ntmps9
  go_wp2_with fail
  refine HP.out.mono ?_
  rintro e w1 ⟨pv, rfl, hown, hb⟩
  have HI := Lib.hid hown; clear hown
  have HB := Lib.hid hb; clear hb
  obtain ⟨pa, pc, rfl⟩ := HI.out.shape
  have hpl := readyFrom_length l 0
  have hpl' : (placesOf l).length ≤ l.length := hpl
  clear hpl
  go_wp2_with fail
  go_loopw [3, 9] (fun v i wr => ∃ (k : Nat) (tl : List (Tk × Value)), k ≤ (placesOf l).length ∧ i = .int .i64 k ∧ tl.length = k ∧ Told w1.heap.size wr v tl ∧ tl.map (·.1) = ((placesOf l).take k).filterMap (fun i => l[i]?.map (·.t)) ∧ Below w1.heap.size w1 wr) (fun _ i _ => (placesOf l).length - (intOf i).toNat)
  case atStart => exact ⟨0, [], by omega, rfl, rfl, Told.nil _ _, rfl, Below.refl _ _⟩
  case round =>
    obtain ⟨k, tl, hk, rfl, htl, htold, hmap, hbel⟩ := hrel
    have HT := Lib.hid htold; clear htold
    have HM := Lib.hid hmap; clear hmap
    have HB1 := Lib.hid hbel; clear hbel
    have HL := Lib.hid htl; clear htl
    by_cases hlt : k < (placesOf l).length
    · obtain ⟨i, hi⟩ : ∃ i, (placesOf l)[k]? = some i := ⟨(placesOf l)[k], by simp [hlt]⟩
      have hil := placesOf_lt (List.mem_of_getElem? hi)
      obtain ⟨e, he⟩ : ∃ e, l[i]? = some e := ⟨l[i], by simp [hil]⟩
      obtain ⟨g, cap', e1⟩ := HR.out.form (by omega)
      injection e1 with e1 _ e2
      subst e1; subst e2
      obtain ⟨pg, rfl, hpg1, hpg2, hpc⟩ := HI.out.at k i hi
      have hgl := HQ.out.lt g (HR.out.blk g rfl).1
      have hsz1 := HB.out.size
      have hszr := HB1.out.size
      have xp : wr.cell? ⟨pg, k, none⟩ = some (.int .i64 (i : Int)) := (HB1.out.cell (p := ⟨pg, k, none⟩) hpg2).trans hpc
      have xq : wr.cell? ⟨q, 1, none⟩ = some (.slice (some ⟨g, 0, none⟩) l.length cap) := (HB1.out.cell (p := ⟨q, 1, none⟩) (by simp; omega)).trans ((HB.out.cell (p := ⟨q, 1, none⟩) hqlt).trans HV.out)
      have hc : ∀ j, j < 12 → wr.cell? ⟨g, i * 12 + j, none⟩ = e.cells[j]? := fun j hj => (HB1.out.cell (p := ⟨g, i * 12 + j, none⟩) (by simp; omega)).trans ((HB.out.cell (p := ⟨g, i * 12 + j, none⟩) hgl).trans (HR.out.cell i e he j hj))
      have q0 := hc 0 (by omega)
      have q1 := hc 1 (by omega)
      have q2 := hc 2 (by omega)
      have q3 := hc 3 (by omega)
      have q4 := hc 4 (by omega)
      have q5 := hc 5 (by omega)
      have q6 := hc 6 (by omega)
      have q7 := hc 7 (by omega)
      have q8 := hc 8 (by omega)
      have q9 := hc 9 (by omega)
      have q10 := hc 10 (by omega)
      clear hc hpc
      obtain ⟨d1, d2, d3⟩ := HR.out.data e (List.mem_of_getElem? he)
      have d4 := (d1.later HB.out).below HB1.out (d1.lies.mono fun x hx => by omega)
      have HD := Lib.hid (own_any e.t e.dv wr d4 d2)
      clear d1 d3 d4
      have HS := Lib.hid (readyOf_take l k i e hi he)
      clear hi
      have HE := Lib.hid he; clear he
      simp only [El.cells, List.getElem?_cons_zero, List.getElem?_cons_succ, Nat.add_zero] at q0 q1 q2 q3 q4 q5 q6 q7 q8 q9 q10
      unfold Tk.cells at HD
      go_wp2_with fail
      refine HD.out.mono ?_
      rintro r w2 ⟨dv', rfl, hown2, hb2⟩
      obtain ⟨da, dc, rfl, _⟩ := hown2.bytes.form
      have HO2 := Lib.hid hown2; clear hown2
      have HB2 := Lib.hid hb2; clear hb2
      obtain ⟨i0, hi, hz0, hz1, hz2⟩ := info_parts Try.info_task
      go_wp2_with (at_builtin; refine wpList_append_lies _ rfl (.tmp 13) (.tmp 23) 33 rfl w1.heap.size 32 i0 _ 11 96 Try.underlying33 hi hz0 hz1 hz2 rfl (by omega) u3 tl.length (tflat tl) rfl (World.ownsRow.alloc (HT.out.keeps (Keeps.of_below (F := fun _ => False) HB2.out) (fun _ _ h => h)).own _) ⟨w2.heap.size, 0, none⟩ 1 1 (e.t.cells (.slice da e.t.data.length dc)).toList rfl rfl (World.news_of_block (cs := e.t.cells (.slice da e.t.data.length dc)) (t := 32) (fr := (0, 0)) (heap_alloc_new w2 _)) (by simp [Tk.cells, Value.oneCell']) (by omega) (by have := HL.out; unfold maxLen; omega) (by have := HL.out; omega) (by have := HB2.out.size; simp; omega) (w2.heap.size + 1) (by simp) ?_; intro g4 cap4 w4 hown4 hgrow hat hlt4)
      have hs := HT.out.snoc (W := w2) (t := e.t) HB2.out hszr HO2.out d2 rfl hgrow hown4 hat
      have HS4 := Lib.hid hs; clear hs hown4 hgrow hat hlt4
      go_roundw
      case rel =>
        refine ⟨k + 1, tl ++ [(e.t, .slice da e.t.data.length dc)], by omega, by go_num, by rw [List.length_append, HL.out]; rfl, HS4.out.1, ?_, ?_⟩
        · rw [List.map_append, HM.out, HS.out]; rfl
        · exact (HB1.out.trans (HB2.out.mono hszr)).trans HS4.out.2
      case measure => simp [intOf]; omega
    · obtain rfl : k = (placesOf l).length := by omega
      have hsz := HB.out.size
      go_wp2
      go_ret
      refine ⟨_, rfl, ⟨tl, HT.out.mono hsz, ?_⟩, HB.out.trans (HB1.out.mono hsz)⟩
      rw [HM.out, List.take_length]; rfl
end Go.Proofs.Ytknjiphgpoifcaa
