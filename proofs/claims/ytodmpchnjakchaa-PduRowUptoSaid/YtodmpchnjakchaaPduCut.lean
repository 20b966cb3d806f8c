/-
  PDUs: bytes copied into a row of the call's own; a part of some bytes.
-/
import Derived.Test.YtodmpchnjakchaaPduBuf
import Derived.Laws.CopyRow
import Derived.Deep.RegionLaw
namespace Go.Proofs.Ytodmpchnjakchaa
open Go.RowKit

theorem BytesAt.part {w : World} {b off n c : Nat} {l : List Nat} (h : BytesAt w (.slice (some ⟨b, off, none⟩) n c) l) (lo hi c' : Nat) (h1 : lo ≤ hi) (h2 : hi ≤ n) : BytesAt w (.slice (some ⟨b, off + lo, none⟩) (hi - lo) c') ((l.take hi).drop lo) := by
  have hn := h.length
  rcases h with ⟨rfl, ao, cap, e, h0⟩ | ⟨bd, of', cap, e, hc⟩
  · injection e with e1 e2 e3
    have : hi - lo = 0 := by omega
    rw [this]
    exact .inl ⟨by simp, _, _, rfl, fun h => by cases h⟩
  · injection e with e1 e2 e3
    injection e1 with e1
    injection e1 with e1 e4
    subst e1 e4
    refine .inr ⟨b, off + lo, c', by simp; omega, fun i hi' => ?_⟩
    simp at hi'
    rw [Nat.add_assoc]
    refine (hc (lo + i) (by omega)).trans ?_
    simp [List.getD, List.getElem?_take]
    congr 2
    rw [if_pos (by omega)]

theorem BytesAt.behind {w : World} {b n m c : Nat} {x y : List Nat} (h : BytesAt w (.slice (some ⟨b, 0, none⟩) (n + m) c) (x ++ y)) (hx : x.length = n) (hy : y.length = m) (c' : Nat) : BytesAt w (.slice (some ⟨b, n, none⟩) m c') y := by
  have h2 := h.part n (n + m) c' (by omega) (Nat.le_refl _)
  rw [Nat.zero_add, Nat.add_sub_cancel_left] at h2
  rw [List.take_of_length_le (by rw [List.length_append]; omega), ← hx, List.drop_left] at h2
  rw [← hx]; exact h2

theorem step_copy_owns {ops : Array Oper} {o : Oper} {a : Act} {w : World} {K : Act → World → Prop} {Q : Exit → Act → World → Prop} {E : Prop} (hgd : o.guard = none) (d s : Operand)
    (ho : o.op = .call { callee := .builtin .copy, args := #[d, s], argTypes := #[23, 23] }) (base g off n cap dLen dCap : Nat) (xs l : List Nat) (ad : Addr) (sCap : Nat)
    (hd : a.eval d = .slice (some ⟨g, off, none⟩) dLen dCap) (hs : a.eval s = .slice (some ad) l.length sCap) (hown : Owns base w (.slice (some ⟨g, 0, none⟩) n cap) xs)
    (hl : ∀ j, j < l.length → w.cell? (ad.add j) = some (.int .u8 (l.getD j 0 : Nat))) (hfit : off + l.length ≤ n) (hmin : l.length ≤ dLen)
    (h : ∀ w', Owns base w' (.slice (some ⟨g, 0, none⟩) n cap) (xs.take off ++ l ++ xs.drop (off + l.length)) → Keeps (· = g) w w' → K (a.put o.dst (goInt l.length)) w') :
    if Region.wanted o (yielded ops a.tmps) = true then Oper.wp Try.prog o a w K Q else E := by
  have hw : Region.wanted o (yielded ops a.tmps) = true := by simp [Region.wanted, hgd]
  rw [if_pos hw]
  obtain ⟨i0, hi, hz0, hz1, hz2⟩ := info_parts Try.info_byte
  have hn := hown.len
  subst hn
  have h1 : ∀ u ∈ byteCells l, u.oneCell' = true := fun u hu => by
    obtain ⟨n, _, rfl⟩ := List.mem_map.1 hu
    rfl
  rcases hown.2 with ⟨h0, _⟩ | ⟨g', cap', cur, hv, hbg, hg, hnc, hcm, hcs, htake⟩
  · cases h0
  · cases hv
    have hbl : (byteCells l).length = l.length := byteCells_length l
    have hcur : cur.size = cap := by omega
    have hrun := run_copy_row (P := Try.prog) w 23 23 o.type 5 g off dLen dCap ad l.length sCap cur 5 (byteCells l) Try.underlying23 (by rw [hi]; simpa using hz1) hg (by rw [hbl]; exact (Nat.min_eq_left hmin).symm)
      (fun j v hj => by
        have hjl : j < l.length := by
          rcases Nat.lt_or_ge j l.length with h' | h'
          · exact h'
          · rw [List.getElem?_eq_none (by rw [hbl]; exact h')] at hj; cases hj
        exact (hl j hjl).trans ((byteCells_get l j hjl).symm.trans hj)) (by rw [hbl]; omega) h1
    unfold Oper.wp
    simp [execOp, ho, resolve, invoke, builtin, hd, hs, hrun, Result.andThen]
    rw [hbl]
    refine h _ ?_ ⟨rfl, rfl, rfl, by simp [World.setRow], fun k _ hk => setRow_other w g k _ (fun e => hk e)⟩
    have hxl : xs.length = (xs.take off ++ l ++ xs.drop (off + l.length)).length := by simp; omega
    unfold Owns
    rw [← hxl]
    have e1 : cur.toList.take xs.length = byteCells xs := by simpa using htake
    refine ⟨by rw [byteCells_length]; omega, .inr ⟨g, cap, _, rfl, hbg, setRow_heap w g cur _ 5 _ hg, hnc, hcm, ?_, ?_⟩⟩
    · simp only [List.size_toArray, List.length_append, List.length_take, List.length_drop, Array.length_toList, hbl]
      omega
    · have e2 : cur.toList = byteCells xs ++ cur.toList.drop xs.length := by rw [← e1, List.take_append_drop]
      have e3 : (byteCells xs).length = xs.length := byteCells_length xs
      have e4 : byteCells (xs.take off ++ l ++ xs.drop (off + l.length)) = (byteCells xs).take off ++ (byteCells l ++ (byteCells xs).drop (off + l.length)) := by simp [byteCells]
      rw [Nat.mul_one, e4]
      generalize cur.toList.drop xs.length = rest at e2
      rw [e2]
      have e5 : (byteCells xs ++ rest).take off = (byteCells xs).take off := List.take_append_of_le_length (by omega)
      have e6 : (byteCells xs ++ rest).drop (off + l.length) = (byteCells xs).drop (off + l.length) ++ rest := List.drop_append_of_le_length (by omega)
      rw [e5, e6, ← List.append_assoc, ← List.append_assoc, List.take_append_of_le_length (by simp; omega), List.take_of_length_le (by simp; omega), List.append_assoc]
end Go.Proofs.Ytodmpchnjakchaa
