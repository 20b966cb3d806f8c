/-
  A row of PDUs that came in, opened; a row of PDUs, built.
-/
import Derived.Test.YtodmpchnjakchaaPduRoomIn
import Derived.Test.YtodmpchnjakchaaBulk
namespace Go.Proofs.Ytodmpchnjakchaa
open Go.RowKit Go.ChangeShapes Go.WideShapes Go.Deep

/-- A PDU, and where its data lie. -/
abbrev PDV := Pdu.PD × Value
def PDV.cells (y : PDV) : Array Value := y.1.cells y.2
theorem build_one (y : PDV) (w : World) : (Instr.buildSlice 47 1 #[(0, .agg y.cells)]).run Try.prog w = .ok (.slice (some ⟨w.heap.size, 0, none⟩) 1 1) (w.alloc (.cells y.cells 25)) := by
  kernel_rfl
theorem wpList_build_pd {ops : Array Oper} {rest : List Oper} {o : Oper} {a : Act} {Q : Exit → Act → World → Prop} {w : World} (hgd : o.guard = none) (x : Operand) (ho : o.op = .buildSlice 47 1 #[(0, x)]) (y : PDV) (hx : a.eval x = .agg y.cells)
    (h : wpList Try.prog ops Q rest (a.put o.dst (.slice (some ⟨w.heap.size, 0, none⟩) 1 1)) (w.alloc (.cells y.cells 25))) : wpList Try.prog ops Q (o :: rest) a w := by
  refine wpList_plain hgd fun K hK => ?_
  unfold Oper.wp execOp
  simp only [ho, List.map_toArray, List.map_cons, List.map_nil, hx, Sem.run_bind, build_one, Result.andThen_ok, Sem.run_pure]
  exact hK _ _ h

set_option maxRecDepth 100000 in
theorem bytes_bulk {H : Type} {enc : TypeId × Value → H} {W : World} {fuel : Nat} {c : Value} {x : DataW H × List MemPlace} (h : DataW.trod enc Try.prog W 0 (fun _ => true) true fuel 23 [c] = some x) :
    ∃ l : List Nat, BytesAt W c l ∧ Crc.Bytes l ∧ l.length ≤ Rows.uptoBulk x.1 := by
  obtain ⟨l, hb, hB, hw⟩ := bytes_in h
  refine ⟨l, hb, hB, ?_⟩
  rcases open_ints Try.underlying23 Try.underlying5 (by kernel_rfl) h with ⟨hcs, _⟩ | ⟨a, len, cap, zs, hcs, _, hl, hm, hz, hx, hc, hwf⟩
  · injection hcs with hcs
    subst hcs
    have := hb.length
    omega
  · injection hcs with hcs
    subst hcs
    have hll := hb.length
    rw [hx]
    refine Nat.le_trans ?_ (bulks.slice_le _ _)
    simp [lits]
    simp at hz
    omega

set_option maxRecDepth 100000 in
set_option maxHeartbeats 3200000 in
theorem pd_bulk {H : Type} {enc : TypeId × Value → H} {W : World} {fuel : Nat} {cs : List Value} {x : DataW H × List MemPlace} (h : DataW.trod enc Try.prog W 0 (fun _ => true) true fuel 25 cs = some x) :
    ∃ (p : Pdu.PD) (dv : Value), cs = (p.cells dv).toList ∧ p.Ok ∧ BytesAt W dv p.data ∧ p.data.length ≤ Rows.uptoBulk x.1 := by
  obtain ⟨ys, n, _, hx, hlen, hyl, hf⟩ := DataW.trod_struct Try.underlying25 h
  rw [show Try.prog.cellsOf 25 = 27 by kernel_rfl] at hlen
  match cs, hlen with
  | [c0, c1, c2, c3, c4, c5, c6, c7, c8, c9, c10, c11, c12, c13, c14, c15, c16, c17, c18, c19, c20, c21, c22, c23, c24, c25, c26], _ =>
    match ys, hyl with
    | [y0, y1, y2, y3, y4, y5, y6, y7, y8, y9, y10, y11], _ =>
      have f0 := hf 0 _ rfl
      have f1 := hf 1 _ rfl
      have f2 := hf 2 _ rfl
      have f3 := hf 3 _ rfl
      have f4 := hf 4 _ rfl
      have f5 := hf 5 _ rfl
      have f6 := hf 6 _ rfl
      have f7 := hf 7 _ rfl
      have f8 := hf 8 _ rfl
      have f9 := hf 9 _ rfl
      have f10 := hf 10 _ rfl
      have f11 := hf 11 _ rfl
      simp only [List.getElem?_cons_zero, List.getElem?_cons_succ] at f0 f1 f2 f3 f4 f5 f6 f7 f8 f9 f10 f11
      obtain ⟨x0, e0, _, w0⟩ := DataW.trod_int Try.underlying3 f0
      obtain ⟨x2, e2, _, w2⟩ := DataW.trod_int Try.underlying3 f2
      obtain ⟨x3, e3, _, w3⟩ := DataW.trod_int Try.underlying3 f3
      obtain ⟨x4, e4, _, w4⟩ := DataW.trod_int Try.underlying3 f4
      obtain ⟨x5, e5, _, w5⟩ := DataW.trod_int Try.underlying3 f5
      obtain ⟨x6, e6, _, w6⟩ := DataW.trod_int Try.underlying3 f6
      obtain ⟨x7, e7, _, w7⟩ := DataW.trod_int Try.underlying3 f7
      obtain ⟨x8, e8, _, w8⟩ := DataW.trod_int Try.underlying3 f8
      obtain ⟨x9, e9, _, w9⟩ := DataW.trod_int Try.underlying3 f9
      obtain ⟨x1, e1, _⟩ := DataW.trod_bool Try.underlying4 f1
      obtain ⟨ax, m, _, _, hal, hxl, hae⟩ := DataW.trod_array Try.underlying22 f10
      obtain ⟨tl, htl, htb, hte⟩ := byte_cells (cs := [c10, c11, c12, c13, c14, c15, c16, c17, c18, c19, c20, c21, c22, c23, c24, c25]) rfl hxl hae
      injection e0 with e0
      injection e2 with e2
      injection e3 with e3
      injection e4 with e4
      injection e5 with e5
      injection e6 with e6
      injection e7 with e7
      injection e8 with e8
      injection e9 with e9
      injection e1 with e1
      subst e0 e1 e2 e3 e4 e5 e6 e7 e8 e9
      obtain ⟨l, hb, hB, hw⟩ := bytes_bulk f11
      match tl, htl with
      | [t0, t1, t2, t3, t4, t5, t6, t7, t8, t9, t10, t11, t12, t13, t14, t15], _ =>
        simp only [List.map_cons, List.map_nil, List.cons.injEq, and_true] at hte
        obtain ⟨rfl, rfl, rfl, rfl, rfl, rfl, rfl, rfl, rfl, rfl, rfl, rfl, rfl, rfl, rfl, rfl⟩ := hte
        refine ⟨⟨x0, x1, x2, x3, x4, x5, x6, x7, x8, x9, [t0, t1, t2, t3, t4, t5, t6, t7, t8, t9, t10, t11, t12, t13, t14, t15], l⟩, c26, rfl, ⟨i64_of_wf w0, i64_of_wf w2, i64_of_wf w3, i64_of_wf w4, i64_of_wf w5, i64_of_wf w6, i64_of_wf w7, i64_of_wf w8, i64_of_wf w9, rfl, htb, hB⟩, hb, ?_⟩
        rw [hx]
        refine Nat.le_trans hw ?_
        simp only [Rows.uptoBulk]
        have := bulks.part_le (d := y11.1) (l := [y0.1, y1.1, y2.1, y3.1, y4.1, y5.1, y6.1, y7.1, y8.1, y9.1, y10.1, y11.1]) (by simp)
        simp only [List.map_cons, List.map_nil]
        omega

/-- A row of PDUs. -/
def PdsAt (w : World) (a : Option Addr) (n : Nat) (l : List PDV) : Prop :=
  n = l.length ∧ ∀ i y, l[i]? = some y → (∃ b s, a = some ⟨b, s, none⟩ ∧ b < w.heap.size ∧ ∀ j, j < 27 → w.cell? ⟨b, s + i * 27 + j, none⟩ = y.cells[j]?) ∧ y.1.Ok ∧ BytesAt w y.2 y.1.data ∧ y.1.data.length ≤ 1048576

set_option maxRecDepth 100000 in
theorem pds_in {H : Type} {enc : TypeId × Value → H} {W : World} {a : Option Addr} {n c : Nat} {d : DataW H} {p : List MemPlace} (h : DataW.Trod enc Try.prog W 0 (fun _ => true) true 47 (.slice a n c) d p)
    (hsz : Rows.uptoBulk d ≤ 1048576) : ∃ l, PdsAt W a n l ∧ n ≤ 1048576 := by
  obtain ⟨fuel, hf⟩ := h
  rcases open_slice Try.underlying47 hf with ⟨hcs, _⟩ | ⟨x, len, cap, m, k, D, Pl, hcs, _, hl, hm, hmm, hx, hi⟩
  · simp [Value.cells] at hcs
    obtain ⟨rfl, rfl, rfl⟩ := hcs
    exact ⟨[], ⟨rfl, fun i y hy => by simp at hy⟩, Nat.zero_le _⟩
  · simp [Value.cells] at hcs
    obtain ⟨rfl, rfl, rfl⟩ := hcs
    simp only [if_true] at hmm
    have hc : Try.prog.cellsOf 25 = 27 := by kernel_rfl
    have hxd := congrArg Prod.fst hx
    simp only at hxd
    rw [hxd] at hsz
    have hn1 : n ≤ 1048576 := by
      refine Nat.le_trans ?_ hsz
      refine Nat.le_trans ?_ (bulks.slice_le _ _)
      simp
      omega
    have key : ∀ i, ∃ y : PDV, i < n → (∃ b s, (some x : Option Addr) = some ⟨b, s, none⟩ ∧ b < W.heap.size ∧ ∀ j, j < 27 → W.cell? ⟨b, s + i * 27 + j, none⟩ = y.cells[j]?) ∧ y.1.Ok ∧ BytesAt W y.2 y.1.data ∧ y.1.data.length ≤ 1048576 := by
      intro i
      by_cases hin : i < n
      · obtain ⟨cs', hcs', ht'⟩ := hi i (by omega)
        rw [hc] at hcs'
        obtain ⟨_, hcl, hat⟩ := World.cells?_some hcs'
        obtain ⟨q, dv, rfl, hok, hb, hw⟩ := pd_bulk ht'
        obtain ⟨cs0, hcs0, ht0⟩ := hi 0 (by omega)
        rw [hc] at hcs0
        obtain ⟨_, _, hat0⟩ := World.cells?_some hcs0
        obtain ⟨q0, dv0, rfl, _⟩ := pd_bulk ht0
        have h0 := (hat0 0 (by omega)).trans (show (q0.cells dv0).toList[0]? = some (.int .i64 q0.op) from rfl)
        have hspot := World.cell?_spot h0
        obtain ⟨b, s, spot⟩ := x
        have hs' : spot = none := by simpa [Addr.add] using hspot
        subst hs'
        have hcell : ∀ j, j < 27 → W.cell? ⟨b, s + i * 27 + j, none⟩ = (q.cells dv)[j]? := fun j hj => by
          have := hat j hj
          rw [Go.WideShapes.add_plain, Go.WideShapes.add_plain] at this
          rw [this]
          simp
        have hlt := block_lt ((hcell 0 (by omega)).trans (show (q.cells dv)[0]? = some (.int .i64 q.op) from rfl))
        refine ⟨(q, dv), fun _ => ⟨⟨b, s, rfl, hlt, hcell⟩, hok, hb, ?_⟩⟩
        refine Nat.le_trans hw (Nat.le_trans (bulks.part_le (l := (List.range n).map D) ?_) (Nat.le_trans (Nat.le_of_succ_le (bulks.slice_elems _ _)) hsz))
        exact List.mem_map.2 ⟨i, by simpa using hin, rfl⟩
      · exact ⟨(Pdu.pdZero, .slice none 0 0), fun h => absurd h hin⟩
    obtain ⟨f, hf'⟩ := Classical.skolem.1 key
    refine ⟨(List.range n).map f, ⟨by simp, fun i y hy => ?_⟩, hn1⟩
    rw [List.getElem?_map] at hy
    by_cases hin : i < n
    · rw [List.getElem?_range hin] at hy
      simp at hy
      subst hy
      exact hf' i hin
    · rw [List.getElem?_eq_none (by simpa using hin)] at hy
      simp at hy
end Go.Proofs.Ytodmpchnjakchaa
