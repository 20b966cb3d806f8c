/-
  Asks that came in, opened.
-/
import Derived.Test.YtmanldcohbegkaaMdBase
import Derived.Deep.Slices
import Derived.Deep.Grids
import Derived.OpenShut
import Derived.SizedLaws
namespace Go.Proofs.Ytmanldcohbegkaa
open Go.RowKit Go.ChangeShapes Go.WideShapes Go.Deep

theorem weightsAll_mem {H : Type} {P : Program} {e : TypeId} {l : List (DataW H)} {d : DataW H} (hd : d ∈ l) {n : Nat} (hn : n ∈ d.weights P e) : n ∈ DataW.weightsAll P e l := by
  induction l with
  | nil => simp at hd
  | cons x l ih =>
    simp only [DataW.weightsAll, List.mem_append]
    rcases List.mem_cons.1 hd with h | h
    · subst h; exact .inl hn
    · exact .inr (ih h)
theorem i64_of_wf {n : Int} (h : (Lit.int .i64 n).wf = true) : -9223372036854775808 ≤ n ∧ n ≤ 9223372036854775807 := by
  simp [Lit.wf, IntKind.min, IntKind.max, IntKind.signed, IntKind.bits] at h
  exact h
set_option maxRecDepth 100000 in
/-- A cell that holds a slice of bytes, opened. -/
theorem bytes_in {H : Type} {enc : TypeId × Value → H} {W : World} {fuel : Nat} {c : Value} {x : DataW H × List MemPlace} (h : DataW.trod enc Try.prog W 0 (fun _ => true) true fuel 28 [c] = some x) :
    ∃ l : List Nat, (BytesAt W c l ∧ ∃ a k, c = .slice a l.length k ∧ l.length ≤ k) ∧ (l = [] ∨ ∃ n ∈ x.1.weights Try.prog 28, l.length ≤ n) := by
  rcases open_ints Try.underlying28 Try.underlying5 (by kernel_rfl) h with ⟨hcs, _⟩ | ⟨a, len, cap, zs, hcs, _, hl, hm, hz, hx, hc, hwf⟩
  · injection hcs with hcs
    subst hcs
    exact ⟨[], ⟨.inl ⟨rfl, none, 0, rfl, fun _ => rfl⟩, none, 0, rfl, Nat.le_refl _⟩, .inl rfl⟩
  · injection hcs with hcs
    subst hcs
    simp at hz
    have hb : (Try.prog.bytesOf 5) = 1 := by kernel_rfl
    have hlen : ((zs.take len).map Int.toNat).length = len := by rw [List.length_map, List.length_take]; omega
    refine ⟨(zs.take len).map Int.toNat, ⟨?_, a, cap, by rw [hlen], by rw [hlen]; omega⟩, .inr ⟨zs.length, ?_, by simp; omega⟩⟩
    · by_cases h0 : len = 0
      · subst h0
        exact .inl ⟨by simp, _, _, rfl, fun h => by cases h⟩
      · obtain ⟨b, off, rfl, hc'⟩ := ints_at hc (by omega)
        refine .inr ⟨b, off, cap, by congr 1; simp; omega, fun i hi => ?_⟩
        have hi' : i < len := by simp at hi; omega
        have hz' : i < zs.length := by omega
        rw [hc' i hz']
        have hw := hwf zs[i] (List.getElem_mem hz')
        simp [Lit.wf, IntKind.min, IntKind.max, IntKind.signed, IntKind.bits] at hw
        have e1 : zs.getD i 0 = zs[i] := by simp [List.getD, hz']
        have e2 : ((zs.take len).map Int.toNat).getD i 0 = zs[i].toNat := by simp [List.getD, hi', hz']
        rw [e1, e2]
        congr 2
        omega
    · rw [hx]
      simp only [DataW.weights, Try.underlying28, hb, lits, List.length_map, List.length_take, List.length_drop]
      refine List.mem_cons.2 (.inl ?_)
      omega

set_option maxRecDepth 100000 in
set_option maxHeartbeats 1600000 in
theorem task_in {H : Type} {enc : TypeId × Value → H} {W : World} {fuel : Nat} {cs : List Value} {x : DataW H × List MemPlace} (h : DataW.trod enc Try.prog W 0 (fun _ => true) true fuel 30 cs = some x) :
    ∃ (t : Tk) (dv : Value), cs = (t.cells dv).toList ∧ (BytesAt W dv t.data ∧ ∃ a k, dv = .slice a t.data.length k ∧ t.data.length ≤ k) ∧ (t.data = [] ∨ ∃ n ∈ x.1.weights Try.prog 30, t.data.length ≤ n) := by
  obtain ⟨ys, n, _, hx, hlen, hyl, hf⟩ := DataW.trod_struct Try.underlying30 h
  rw [show Try.prog.cellsOf 30 = 11 by kernel_rfl] at hlen
  match cs, hlen with
  | [c0, c1, c2, c3, c4, c5, c6, c7, c8, c9, c10], _ =>
    match ys, hyl with
    | [y0, y1, y2, y3, y4, y5, y6, y7, y8, y9, y10], _ =>
      have f0 := hf 0 _ rfl
      have f1 := hf 1 _ rfl
      have f2 := hf 2 _ rfl
      have f3 := hf 3 _ rfl
      have f4 := hf 4 _ rfl
      have f5 := hf 5 _ rfl
      have f6 := hf 6 _ rfl
      have f7 := hf 7 _ rfl
      have f8 := hf 8 _ rfl
      have f9 := hf 9 _ rfl
      have f10 := hf 10 _ rfl
      simp only [List.getElem?_cons_zero, List.getElem?_cons_succ] at f0 f1 f2 f3 f4 f5 f6 f7 f8 f9 f10
      obtain ⟨x0, e0, _⟩ := DataW.trod_int Try.underlying3 f0
      obtain ⟨x1, e1, _⟩ := DataW.trod_int Try.underlying3 f1
      obtain ⟨x2, e2, _⟩ := DataW.trod_int Try.underlying3 f2
      obtain ⟨x3, e3, _⟩ := DataW.trod_bool Try.underlying4 f3
      obtain ⟨x4, e4, _⟩ := DataW.trod_bool Try.underlying4 f4
      obtain ⟨x5, e5, _⟩ := DataW.trod_int Try.underlying3 f5
      obtain ⟨x6, e6, _⟩ := DataW.trod_int Try.underlying3 f6
      obtain ⟨x7, e7, _⟩ := DataW.trod_int Try.underlying3 f7
      obtain ⟨x8, e8, _⟩ := DataW.trod_int Try.underlying3 f8
      obtain ⟨x9, e9, _⟩ := DataW.trod_int Try.underlying3 f9
      injection e0 with e0
      injection e1 with e1
      injection e2 with e2
      injection e3 with e3
      injection e4 with e4
      injection e5 with e5
      injection e6 with e6
      injection e7 with e7
      injection e8 with e8
      injection e9 with e9
      subst e0 e1 e2 e3 e4 e5 e6 e7 e8 e9
      obtain ⟨l, hb, hw⟩ := bytes_in f10
      refine ⟨⟨x0, x1, x2, x3, x4, x5, x6, x7, x8, x9, l⟩, c10, rfl, hb, hw.imp id fun ⟨k, hk, hle⟩ => ⟨k, ?_, hle⟩⟩
      rw [hx]
      simp only [DataW.weights, Try.underlying30]
      exact DataW.weights_mem_each (j := 10) rfl rfl k hk

/-- A task, and what it was answered elsewhere. -/
structure AskV where
  t : Tk
  dv : Value
  st : Int
  dn : Int
def AskV.cells (a : AskV) : Array Value := #[.int .i64 a.t.cmd, .int .i64 a.t.tag, .int .i64 a.t.op, .bool a.t.ord, .bool a.t.fua, .int .i64 a.t.vol, .int .i64 a.t.lba, .int .i64 a.t.cnt, .int .i64 a.t.siz, .int .i64 a.t.quo, a.dv, .int .i64 a.st, .int .i64 a.dn]
/-- Its bytes. -/
def AskV.bytes (W : World) (a : AskV) : Prop := (BytesAt W a.dv a.t.data ∧ ∃ p k, a.dv = .slice p a.t.data.length k ∧ a.t.data.length ≤ k) ∧ a.t.data.length ≤ 140737488355328
def AsksAt (W : World) (v : Value) (l : List AskV) : Prop :=
  ∃ ao c, v = .slice ao l.length c ∧ ∀ i y, l[i]? = some y → (∃ b s, ao = some ⟨b, s, none⟩ ∧ b < W.heap.size ∧ ∀ j, j < 13 → W.cell? ⟨b, s + i * 13 + j, none⟩ = y.cells[j]?) ∧ y.bytes W
theorem AskV.bytes.below {W W' : World} {a : AskV} (h : a.bytes W) (k : Below W.heap.size W W') : a.bytes W' := ⟨⟨h.1.1.later k, h.1.2⟩, h.2⟩
theorem AsksAt.below {W W' : World} {v : Value} {l : List AskV} (h : AsksAt W v l) (k : Below W.heap.size W W') : AsksAt W' v l := by
  obtain ⟨ao, c, e, hi⟩ := h
  refine ⟨ao, c, e, fun i y hy => ?_⟩
  obtain ⟨⟨b, s, e2, hb, hc⟩, hbt⟩ := hi i y hy
  exact ⟨⟨b, s, e2, Nat.lt_of_lt_of_le hb k.size, fun j hj => (k.cell (p := ⟨b, s + i * 13 + j, none⟩) hb).trans (hc j hj)⟩, hbt.below k⟩
def tk0 : Tk := ⟨0, 0, 0, false, false, 0, 0, 0, 0, 0, []⟩

set_option maxRecDepth 100000 in
set_option maxHeartbeats 1600000 in
theorem ask_in {H : Type} {enc : TypeId × Value → H} {W : World} {fuel : Nat} {cs : List Value} {x : DataW H × List MemPlace} (h : DataW.trod enc Try.prog W 0 (fun _ => true) true fuel 33 cs = some x) :
    ∃ o : AskV, cs = o.cells.toList ∧ (BytesAt W o.dv o.t.data ∧ ∃ a k, o.dv = .slice a o.t.data.length k ∧ o.t.data.length ≤ k) ∧ (o.t.data = [] ∨ ∃ n ∈ x.1.weights Try.prog 33, o.t.data.length ≤ n) := by
  obtain ⟨ys, n, _, hx, hlen, hyl, hf⟩ := DataW.trod_struct Try.underlying33 h
  rw [show Try.prog.cellsOf 33 = 13 by kernel_rfl] at hlen
  match cs, hlen with
  | [c0, c1, c2, c3, c4, c5, c6, c7, c8, c9, c10, c11, c12], _ =>
    match ys, hyl with
    | [y0, y1, y2], _ =>
      have f0 := hf 0 _ rfl
      have f1 := hf 1 _ rfl
      have f2 := hf 2 _ rfl
      simp only [List.getElem?_cons_zero, List.getElem?_cons_succ] at f0 f1 f2
      obtain ⟨k, e1, _⟩ := DataW.trod_int Try.underlying31 f1
      obtain ⟨m, e2, _, hwf⟩ := DataW.trod_int Try.underlying3 f2
      obtain ⟨t, dv, et, hb, hw⟩ := task_in f0
      injection e1 with e1
      injection e2 with e2
      subst e1 e2
      refine ⟨⟨t, dv, k, m⟩, ?_, hb, hw.imp id fun ⟨k, hk, hle⟩ => ⟨k, ?_, hle⟩⟩
      · show _ = (t.cells dv).toList ++ [Value.int .i64 k, Value.int .i64 m]
        rw [← et]
        rfl
      · rw [hx]
        simp only [DataW.weights, Try.underlying33]
        exact DataW.weights_mem_each (j := 0) rfl rfl k hk

set_option maxRecDepth 100000 in
theorem asks_in {H : Type} {enc : TypeId × Value → H} {W : World} {a : Option Addr} {n c : Nat} {d : DataW H} {p : List MemPlace} (h : DataW.Trod enc Try.prog W 0 (fun _ => true) true 22 (.slice a n c) d p)
    (hsz : ∀ k ∈ d.weights Try.prog 22, k ≤ reachBytes) : ∃ l, AsksAt W (.slice a n c) l ∧ n ≤ maxLen := by
  obtain ⟨fuel, hf⟩ := h
  rcases open_slice Try.underlying22 hf with ⟨hcs, _⟩ | ⟨x, len, cap, m, k, D, Pl, hcs, _, hl, hm, hmm, hx, hi⟩
  · simp [Value.cells] at hcs
    obtain ⟨rfl, rfl, rfl⟩ := hcs
    exact ⟨[], ⟨none, 0, rfl, fun i y hy => by simp at hy⟩, Nat.zero_le _⟩
  · simp [Value.cells] at hcs
    obtain ⟨rfl, rfl, rfl⟩ := hcs
    simp only [if_true] at hmm
    have hc : Try.prog.cellsOf 33 = 13 := by kernel_rfl
    have key : ∀ i, ∃ o : AskV, i < n → (∃ b s, (some x : Option Addr) = some ⟨b, s, none⟩ ∧ b < W.heap.size ∧ ∀ j, j < 13 → W.cell? ⟨b, s + i * 13 + j, none⟩ = o.cells[j]?) ∧ o.bytes W := by
      intro i
      by_cases hin : i < n
      · obtain ⟨cs', hcs', ht'⟩ := hi i (by omega)
        rw [hc] at hcs'
        obtain ⟨_, hcl, hat⟩ := World.cells?_some hcs'
        obtain ⟨o, rfl, hb, hw⟩ := ask_in ht'
        obtain ⟨cs0, hcs0, ht0⟩ := hi 0 (by omega)
        rw [hc] at hcs0
        obtain ⟨_, _, hat0⟩ := World.cells?_some hcs0
        obtain ⟨o0, rfl, _⟩ := ask_in ht0
        have h0 := (hat0 0 (by omega)).trans (show o0.cells.toList[0]? = some (.int .i64 o0.t.cmd) by simp [AskV.cells])
        have hspot := World.cell?_spot h0
        obtain ⟨b, s, spot⟩ := x
        have hs' : spot = none := by simpa [Addr.add] using hspot
        subst hs'
        have hcell : ∀ j, j < 13 → W.cell? ⟨b, s + i * 13 + j, none⟩ = o.cells[j]? := fun j hj => by
          have := hat j hj
          rw [Go.WideShapes.add_plain, Go.WideShapes.add_plain] at this
          rw [this]
          simp
        have hlt := block_lt ((hcell 0 (by omega)).trans (show o.cells[0]? = some (.int .i64 o.t.cmd) by simp [AskV.cells]))
        refine ⟨o, fun _ => ⟨⟨b, s, rfl, hlt, hcell⟩, hb, ?_⟩⟩
        rcases hw with hw | ⟨k, hk, hle⟩
        · rw [hw]; simp
        · have : k ≤ reachBytes := hsz k (by
            have e := congrArg Prod.fst hx
            simp only at e
            rw [e]
            simp only [DataW.weights, Try.underlying22]
            refine List.mem_cons.2 (.inr (List.mem_append.2 (.inl (weightsAll_mem (d := D i) ?_ hk))))
            exact List.mem_map.2 ⟨i, by simpa using hin, rfl⟩)
          unfold reachBytes at this
          omega
      · exact ⟨⟨tk0, .slice none 0 0, 0, 0⟩, fun h => absurd h hin⟩
    obtain ⟨f, hf'⟩ := Classical.skolem.1 key
    refine ⟨(List.range n).map f, ⟨some x, c, by simp, fun i y hy => ?_⟩, by omega⟩
    rw [List.getElem?_map] at hy
    by_cases hin : i < n
    · rw [List.getElem?_range hin] at hy
      simp at hy
      subst hy
      exact hf' i hin
    · rw [List.getElem?_eq_none (by simpa using hin)] at hy
      simp at hy
end Go.Proofs.Ytmanldcohbegkaa
