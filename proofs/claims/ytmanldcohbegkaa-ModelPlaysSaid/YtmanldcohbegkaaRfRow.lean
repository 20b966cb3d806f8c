/-
  The document's model: rows of blocks: without, blocks.
-/
import Derived.Test.YtmanldcohbegkaaRfFind
namespace Go.Proofs.Ytmanldcohbegkaa
open Go.RowKit

theorem wo_snoc {β : Type} (k : Int) (l : List (Int × β)) (e : Int × β) : wo k (l ++ [e]) = wo k l ++ if e.1 = k then [] else [e] := by
  unfold wo
  rw [List.filter_append]
  by_cases h : e.1 = k <;> simp [h]
theorem bcells_append (a b : List (Int × Value)) : bcells (a ++ b) = bcells a ++ bcells b := by simp [bcells]
theorem vcells_append (a b : List (Vo × Value)) : vcells (a ++ b) = vcells a ++ vcells b := by simp [vcells]
theorem RRow.form {W : Nat → Prop} {w : World} {bv : Value} {es : REs} (h : RRow W w bv es) {e : Int × (Value × List Nat)} (he : e ∈ es) : ∃ g c, e.2.1 = .slice (some ⟨g, 0, none⟩) 64 c := by
  have hd := h.dat e he
  obtain ⟨a, c, e1, hf⟩ := ownsForm hd.own
  rw [hd.len] at e1 hf
  rcases hf with ⟨_, h0, _⟩ | ⟨g, e2, _⟩
  · omega
  · exact ⟨g, c, by rw [e1, e2]⟩
theorem RRow.one {W : Nat → Prop} {w : World} {bv : Value} {es : REs} (h : RRow W w bv es) : ∀ u ∈ bcells es.vals, u.oneCell' = true := by
  intro u hu
  obtain ⟨p, hp, hu⟩ := List.mem_flatMap.1 hu
  obtain ⟨e, he, rfl⟩ := List.mem_map.1 hp
  obtain ⟨g, c, e1⟩ := h.form he
  simp only [bcell, e1, List.mem_cons, List.not_mem_nil, or_false] at hu
  rcases hu with rfl | rfl <;> rfl
theorem take_snoc' {α : Type} {l : List α} {k : Nat} {e : α} (h : l[k]? = some e) : l.take (k + 1) = l.take k ++ [e] := by
  rw [List.take_add_one, h]; rfl

set_option maxRecDepth 100000 in
set_option maxHeartbeats 1600000 in
theorem rwithout_any (W : Nat → Prop) (v : Vo) (bv : Value) (es : REs) (k0 : Int) (w : World) (h : RRow W w bv es) (hlen : es.length ≤ 1048576) :
    Calls Try.prog 46 #[.agg #[.int .i64 v.id, .int .i64 v.size, .int .i64 v.quota, bv], .int .i64 k0] w fun e w' => ∃ a n c, e = .returned (.slice a n c) ∧ w'.ownsRow w.heap.size 87 2 (.slice a n c) n (bcells (wo k0 es.vals)) ∧ n = (wo k0 es.vals).length ∧ Below w.heap.size w w' := by
  obtain ⟨i0, hi0, hz0, hz1, hz2⟩ := info_parts Try.info_rblk
  have HI := Lib.hid hi0; clear hi0
  have HZ0 := Lib.hid hz0; clear hz0
  have HZ1 := Lib.hid hz1; clear hz1
  have HZ2 := Lib.hid hz2; clear hz2
  obtain ⟨a, c, rfl, hform⟩ := ownsForm h.row
  obtain ⟨n, hn⟩ : ∃ n, n = es.length := ⟨_, rfl⟩
  rw [← hn] at h hform hlen ⊢
  have hn1 : n ≤ es.length := by omega
  have hn2 : es.length ≤ n := by omega
  clear hn
  obtain ⟨w1, hw1⟩ : ∃ w1, w1 = w.alloc (.cells #[.int .i64 v.id, .int .i64 v.size, .int .i64 v.quota, .slice a n c] 69) := ⟨_, rfl⟩
  have hb1 : Below w.heap.size w w1 := by rw [hw1]; exact allocBelow w _
  have hc1 : CellsAt w1 w.heap.size #[.int .i64 v.id, .int .i64 v.size, .int .i64 v.quota, .slice a n c] 69 := by rw [hw1]; exact heap_at rfl
  have hz1' : w.heap.size < w1.heap.size := hc1.lt
  have H := Lib.hid (h.keeps (Keeps.of_below (F := fun _ => False) hb1) (fun _ _ h => h)); clear h
  have HC := Lib.hid hc1; clear hc1
  have HB := Lib.hid hb1; clear hb1
  have HFM := Lib.hid hform; clear hform
  go_enter Try.func46, Try.ntmps46
  go_upto_region 1 with fail
  rw [← hw1]
  clear hw1
  go_wp2_with fail
  go_loopw [5, 6] (fun o i wr => ∃ k : Nat, k ≤ n ∧ i = .int .i64 (k : Int) ∧ ∃ ra rn rc, o = .slice ra rn rc ∧ wr.ownsRow w1.heap.size 87 2 (.slice ra rn rc) rn (bcells (wo k0 (es.vals.take k))) ∧ (rn ≤ (wo k0 (es.vals.take k)).length ∧ (wo k0 (es.vals.take k)).length ≤ rn ∧ rn ≤ k) ∧ Below w1.heap.size w1 wr) (fun _ i _ => n - (intOf i).toNat)
  case atStart => exact ⟨0, by omega, rfl, none, 0, 0, rfl, World.ownsRow_nil _ _ _ _, by simp [wo], Below.refl _ _⟩
  case round =>
    obtain ⟨k, hk, rfl, ra, rn, rc, rfl, hown, ⟨hr1, hr2, hr3⟩, hb⟩ := hrel
    have HO := Lib.hid hown; clear hown
    have HB2 := Lib.hid hb; clear hb
    have c3 := (HC.out.below HB2.out (by omega)).cell 3
    simp only [List.getElem?_toArray, List.getElem?_cons_zero, List.getElem?_cons_succ] at c3
    by_cases hlt : k < n
    · have hkn : (k : Int) < (n : Int) := by omega
      have hk0 : (0 : Int) ≤ (k : Int) := by omega
      have hkz : ((k : Int)).toNat = k := by omega
      obtain ⟨g, rfl⟩ : ∃ g, a = some ⟨g, 0, none⟩ := by
        rcases HFM.out with ⟨_, h0, _⟩ | ⟨g, e, _⟩
        · omega
        · exact ⟨g, e⟩
      obtain ⟨p, hp⟩ : ∃ p, es[k]? = some p := ⟨es[k]'(by omega), by simp [show k < es.length by omega]⟩
      have HR2 := Lib.hid (H.out.keeps (Keeps.of_below (F := fun _ => False) HB2.out) (fun _ _ h => h))
      have q0 := HR2.out.cell hp 0 (by omega)
      have q1 := HR2.out.cell hp 1 (by omega)
      obtain ⟨gd, cd, e1⟩ := H.out.form (List.mem_of_getElem? hp)
      have hv : es.vals[k]? = some (p.1, p.2.1) := by simp [REs.vals, hp]
      have hsn := wo_snoc k0 (es.vals.take k) (p.1, p.2.1)
      rw [← take_snoc' hv] at hsn
      obtain ⟨pa, pv, pd⟩ := p
      dsimp only at e1 q0 q1 hsn
      subst e1
      simp only [bcell, List.getElem?_cons_zero, List.getElem?_cons_succ, Nat.add_zero] at q0 q1
      have HSN := Lib.hid hsn; clear hsn hv hp HR2
      have hsz := HB2.out.size
      by_cases hid : pa = k0
      · have hb : (pa != k0) = false := by simp [hid]
        have HI2 := Lib.hid hid; clear hid
        go_wp2
        go_roundw
        case rel => exact ⟨k + 1, by omega, by simp, ra, rn, rc, rfl, by rw [HSN.out, if_pos HI2.out, List.append_nil]; exact HO.out, by rw [HSN.out, if_pos HI2.out, List.append_nil]; exact ⟨hr1, hr2, by omega⟩, HB2.out⟩
        case measure => simp only [intOf]; omega
      · have hb : (pa != k0) = true := by simp [hid]
        have HI2 := Lib.hid hid; clear hid
        go_wp2_with (at_builtin; refine wpList_append_own _ rfl (.tmp 22) (.tmp 28) 67 rfl w1.heap.size 87 i0 _ 2 32 Try.underlying67 HI.out HZ0.out HZ1.out HZ2.out rfl (by decide) (.slice ra rn rc) rn (bcells (wo k0 (es.vals.take k))) rfl (World.ownsRow.alloc HO.out _) ⟨wr.heap.size, 0, none⟩ 1 1 (#[.int .i64 pa, .slice (some ⟨gd, 0, none⟩) 64 cd] : Array Value).toList rfl rfl (World.news_of_block (cs := #[.int .i64 pa, .slice (some ⟨gd, 0, none⟩) 64 cd]) (t := 87) (fr := (0, 0)) (World.alloc_heap_new wr _)) (by simp [Value.oneCell']) (by unfold maxLen; omega) (by omega) (by simp; omega) ?_; intro v2 w2 hown2 hgrow2 _; obtain ⟨a2, c2, rfl, _⟩ := ownsForm hown2)
        go_roundw
        case rel => exact ⟨k + 1, by omega, by simp, a2, _, c2, rfl, by rw [HSN.out, if_neg HI2.out, bcells_append]; exact hown2, by rw [HSN.out, if_neg HI2.out]; simp only [List.length_append, List.length_cons, List.length_nil]; omega, (HB2.out.alloc (by omega) _).grown hgrow2 (by simp; omega) (fun k hk => (World.ownsRow.lt HO.out k hk).1)⟩
        case measure => simp only [intOf]; omega
    · obtain rfl : k = n := by omega
      have hkk : ¬ (k : Int) < (k : Int) := by omega
      have hta : es.vals.take k = es.vals := List.take_of_length_le (by simp [REs.vals]; omega)
      rw [hta] at HO hr1 hr2
      have HTA := Lib.hid hta; clear hta
      go_wp2
      go_ret
      exact ⟨ra, rn, rc, rfl, World.ownsRow.mono HO.out (by omega), by omega, HB.out.trans (HB2.out.mono (by omega))⟩
end Go.Proofs.Ytmanldcohbegkaa
