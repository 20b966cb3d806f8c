/-
  A PDU that came in, opened.
-/
import Derived.Test.YtodmpchnjakchaaPduWritesWalk
import Derived.Deep.Slices
import Derived.Deep.Grids
import Derived.OpenShut
import Derived.ShutString
import Derived.ChangeOld
import Derived.SizedLaws
namespace Go.Proofs.Ytodmpchnjakchaa
open Go.RowKit Go.ChangeShapes Go.WideShapes Go.Deep

theorem weightsAll_mem {H : Type} {P : Program} {e : TypeId} {l : List (DataW H)} {d : DataW H} (hd : d ∈ l) {n : Nat} (hn : n ∈ d.weights P e) : n ∈ DataW.weightsAll P e l := by
  induction l with
  | nil => simp at hd
  | cons x l ih =>
    simp only [DataW.weightsAll, List.mem_append]
    rcases List.mem_cons.1 hd with h | h
    · subst h; exact .inl hn
    · exact .inr (ih h)
theorem i64_of_wf {n : Int} (h : (Lit.int .i64 n).wf = true) : i64s n := by
  simp [Lit.wf, IntKind.min, IntKind.max, IntKind.signed, IntKind.bits] at h
  exact h
set_option maxRecDepth 100000 in
/-- A cell that holds a slice of bytes, opened. -/
theorem bytes_in {H : Type} {enc : TypeId × Value → H} {W : World} {fuel : Nat} {c : Value} {x : DataW H × List MemPlace} (h : DataW.trod enc Try.prog W 0 (fun _ => true) true fuel 23 [c] = some x) :
    ∃ l : List Nat, BytesAt W c l ∧ Crc.Bytes l ∧ (l = [] ∨ ∃ n ∈ x.1.weights Try.prog 23, l.length ≤ n) := by
  rcases open_ints Try.underlying23 Try.underlying5 (by kernel_rfl) h with ⟨hcs, _⟩ | ⟨a, len, cap, zs, hcs, _, hl, hm, hz, hx, hc, hwf⟩
  · injection hcs with hcs
    subst hcs
    exact ⟨[], .inl ⟨rfl, none, 0, rfl, fun _ => rfl⟩, fun b hb => by simp at hb, .inl rfl⟩
  · injection hcs with hcs
    subst hcs
    simp at hz
    have hb : (Try.prog.bytesOf 5) = 1 := by kernel_rfl
    refine ⟨(zs.take len).map Int.toNat, ?_, ?_, .inr ⟨zs.length, ?_, by simp; omega⟩⟩
    · by_cases h0 : len = 0
      · subst h0
        exact .inl ⟨by simp, _, _, rfl, fun h => by cases h⟩
      · obtain ⟨b, off, rfl, hc'⟩ := ints_at hc (by omega)
        refine .inr ⟨b, off, cap, by congr 1; simp; omega, fun i hi => ?_⟩
        have hi' : i < len := by simp at hi; omega
        have hz' : i < zs.length := by omega
        rw [hc' i hz']
        have hw := hwf zs[i] (List.getElem_mem hz')
        simp [Lit.wf, IntKind.min, IntKind.max, IntKind.signed, IntKind.bits] at hw
        have e1 : zs.getD i 0 = zs[i] := by simp [List.getD, hz']
        have e2 : ((zs.take len).map Int.toNat).getD i 0 = zs[i].toNat := by simp [List.getD, hi', hz']
        rw [e1, e2]
        congr 2
        omega
    · intro b hb'
      obtain ⟨z, hz1, rfl⟩ := List.mem_map.1 hb'
      have hw := hwf z (List.mem_of_mem_take hz1)
      simp [Lit.wf, IntKind.min, IntKind.max, IntKind.signed, IntKind.bits] at hw
      omega
    · rw [hx]
      simp only [DataW.weights, Try.underlying23, hb, lits, List.length_map, List.length_take, List.length_drop]
      refine List.mem_cons.2 (.inl ?_)
      omega

def byteOf : Value → Nat
  | .int _ n => n.toNat
  | _ => 0
set_option maxRecDepth 100000 in
theorem byte_cells {H : Type} {enc : TypeId × Value → H} {W : World} {m : Nat} {cs : List Value} {xs : List (DataW H × List MemPlace)} (hl : cs.length = 16) (hx : xs.length = 16)
    (h : ∀ i, i < 16 → DataW.trod enc Try.prog W 0 (fun _ => true) true m 5 ((cs.drop (i * Try.prog.cellsOf 5)).take (Try.prog.cellsOf 5)) = xs[i]?) :
    ∃ l : List Nat, l.length = 16 ∧ Crc.Bytes l ∧ cs = l.map (fun (n : Nat) => Value.int .u8 (n : Int)) := by
  have hc1 : Try.prog.cellsOf 5 = 1 := by kernel_rfl
  have key : ∀ i (hi : i < cs.length), ∃ n : Nat, n < 256 ∧ cs[i] = .int .u8 (n : Int) := by
    intro i hi
    have h1 := h i (by omega)
    rw [hc1, Nat.mul_one, List.getElem?_eq_getElem (by omega)] at h1
    have e : (cs.drop i).take 1 = [cs[i]] := by
      rw [List.drop_eq_getElem_cons hi]
      rfl
    rw [e] at h1
    obtain ⟨x, ex, _, hwf⟩ := DataW.trod_int Try.underlying5 h1
    injection ex with ex
    simp [Lit.wf, IntKind.min, IntKind.max, IntKind.signed, IntKind.bits] at hwf
    exact ⟨x.toNat, by omega, by rw [ex]; congr 1; omega⟩
  refine ⟨cs.map byteOf, by simpa using hl, fun b hb => ?_, ?_⟩
  · obtain ⟨v, hv, rfl⟩ := List.mem_map.1 hb
    obtain ⟨i, hi, rfl⟩ := List.getElem_of_mem hv
    obtain ⟨n, hn, e⟩ := key i hi
    rw [e]
    show (n : Int).toNat < 256
    omega
  · apply List.ext_getElem
    · simp
    · intro i h1 h2
      obtain ⟨n, hn, e⟩ := key i h1
      simp [e, byteOf]

set_option maxRecDepth 100000 in
set_option maxHeartbeats 3200000 in
theorem pd_in {H : Type} {enc : TypeId × Value → H} {W : World} {fuel : Nat} {cs : List Value} {x : DataW H × List MemPlace} (h : DataW.trod enc Try.prog W 0 (fun _ => true) true fuel 25 cs = some x) :
    ∃ (p : Pdu.PD) (dv : Value), cs = (p.cells dv).toList ∧ p.Ok ∧ BytesAt W dv p.data ∧ (p.data = [] ∨ ∃ n ∈ x.1.weights Try.prog 25, p.data.length ≤ n) := by
  obtain ⟨ys, n, _, hx, hlen, hyl, hf⟩ := DataW.trod_struct Try.underlying25 h
  rw [show Try.prog.cellsOf 25 = 27 by kernel_rfl] at hlen
  match cs, hlen with
  | [c0, c1, c2, c3, c4, c5, c6, c7, c8, c9, c10, c11, c12, c13, c14, c15, c16, c17, c18, c19, c20, c21, c22, c23, c24, c25, c26], _ =>
    match ys, hyl with
    | [y0, y1, y2, y3, y4, y5, y6, y7, y8, y9, y10, y11], _ =>
      have f0 := hf 0 _ rfl
      have f1 := hf 1 _ rfl
      have f2 := hf 2 _ rfl
      have f3 := hf 3 _ rfl
      have f4 := hf 4 _ rfl
      have f5 := hf 5 _ rfl
      have f6 := hf 6 _ rfl
      have f7 := hf 7 _ rfl
      have f8 := hf 8 _ rfl
      have f9 := hf 9 _ rfl
      have f10 := hf 10 _ rfl
      have f11 := hf 11 _ rfl
      simp only [List.getElem?_cons_zero, List.getElem?_cons_succ] at f0 f1 f2 f3 f4 f5 f6 f7 f8 f9 f10 f11
      obtain ⟨x0, e0, _, w0⟩ := DataW.trod_int Try.underlying3 f0
      obtain ⟨x2, e2, _, w2⟩ := DataW.trod_int Try.underlying3 f2
      obtain ⟨x3, e3, _, w3⟩ := DataW.trod_int Try.underlying3 f3
      obtain ⟨x4, e4, _, w4⟩ := DataW.trod_int Try.underlying3 f4
      obtain ⟨x5, e5, _, w5⟩ := DataW.trod_int Try.underlying3 f5
      obtain ⟨x6, e6, _, w6⟩ := DataW.trod_int Try.underlying3 f6
      obtain ⟨x7, e7, _, w7⟩ := DataW.trod_int Try.underlying3 f7
      obtain ⟨x8, e8, _, w8⟩ := DataW.trod_int Try.underlying3 f8
      obtain ⟨x9, e9, _, w9⟩ := DataW.trod_int Try.underlying3 f9
      obtain ⟨x1, e1, _⟩ := DataW.trod_bool Try.underlying4 f1
      obtain ⟨ax, m, _, _, hal, hxl, hae⟩ := DataW.trod_array Try.underlying22 f10
      obtain ⟨tl, htl, htb, hte⟩ := byte_cells (cs := [c10, c11, c12, c13, c14, c15, c16, c17, c18, c19, c20, c21, c22, c23, c24, c25]) rfl hxl hae
      injection e0 with e0
      injection e2 with e2
      injection e3 with e3
      injection e4 with e4
      injection e5 with e5
      injection e6 with e6
      injection e7 with e7
      injection e8 with e8
      injection e9 with e9
      injection e1 with e1
      subst e0 e1 e2 e3 e4 e5 e6 e7 e8 e9
      obtain ⟨l, hb, hB, hw⟩ := bytes_in f11
      match tl, htl with
      | [t0, t1, t2, t3, t4, t5, t6, t7, t8, t9, t10, t11, t12, t13, t14, t15], _ =>
        simp only [List.map_cons, List.map_nil, List.cons.injEq, and_true] at hte
        obtain ⟨rfl, rfl, rfl, rfl, rfl, rfl, rfl, rfl, rfl, rfl, rfl, rfl, rfl, rfl, rfl, rfl⟩ := hte
        refine ⟨⟨x0, x1, x2, x3, x4, x5, x6, x7, x8, x9, [t0, t1, t2, t3, t4, t5, t6, t7, t8, t9, t10, t11, t12, t13, t14, t15], l⟩, c26, rfl, ⟨i64_of_wf w0, i64_of_wf w2, i64_of_wf w3, i64_of_wf w4, i64_of_wf w5, i64_of_wf w6, i64_of_wf w7, i64_of_wf w8, i64_of_wf w9, rfl, htb, hB⟩, hb, hw.imp id fun ⟨k, hk, hle⟩ => ⟨k, ?_, hle⟩⟩
        rw [hx]
        simp only [DataW.weights, Try.underlying25]
        exact DataW.weights_mem_each (j := 11) rfl rfl k hk
end Go.Proofs.Ytodmpchnjakchaa
