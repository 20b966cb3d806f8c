/-
  bytes.Equal, bytes.Clone.
-/
import Derived.Test.YtodmpchnjakchaaPduRead
import Derived.Laws.BytesArg
namespace Go.Proofs.Ytodmpchnjakchaa
open Go.RowKit

def strOf (l : List Nat) : ByteArray := strOfNums (l.map fun (n : Nat) => (n : Int))
theorem strOf_inj {a b : List Nat} (ha : Crc.Bytes a) (hb : Crc.Bytes b) : ((strOf a).toList == (strOf b).toList) = decide (a = b) := by
  have key : ∀ {a b : List Nat}, Crc.Bytes a → Crc.Bytes b → (strOf a).toList = (strOf b).toList → a = b := by
    intro a b ha hb h1
    unfold strOf at h1
    rw [ByteArray.toList_eq, ByteArray.toList_eq, strOfNums_data, strOfNums_data, List.map_map, List.map_map] at h1
    have h2 := congrArg (List.map UInt8.toNat) h1
    rw [List.map_map, List.map_map] at h2
    have e : ∀ {l : List Nat}, Crc.Bytes l → List.map (UInt8.toNat ∘ (fun n : Int => UInt8.ofNat n.toNat) ∘ fun (n : Nat) => (n : Int)) l = l := by
      intro l hl
      conv => rhs; rw [← List.map_id l]
      refine List.map_congr_left fun x hx => ?_
      have := hl x hx
      simp
      omega
    rw [e ha, e hb] at h2
    exact h2
  by_cases h : a = b
  · subst h; simp
  · rw [decide_eq_false h]
    rw [beq_eq_false_iff_ne]
    exact fun e => h (key ha hb e)

theorem convert_bytes {w : World} {v : Value} {l : List Nat} (h : BytesAt w v l) (hl : 0 < l.length) : (convert 23 9 v).run Try.prog w = .ok (.string (strOf l)) w := by
  rcases h with ⟨rfl, _⟩ | ⟨bd, off, cap, rfl, hc⟩
  · simp at hl
  · refine run_convert_bytes_arg (P := Try.prog) w 23 5 Try.underlying23 Try.underlying5 bd off l.length cap (l.map fun (n : Nat) => (n : Int)) (by simp) (fun i hi => ?_) 9 Try.underlying9
    rw [hc i hi]
    simp [List.getD, hi]

set_option maxRecDepth 100000 in
set_option maxHeartbeats 1600000 in
theorem equal_any (va vb : Value) (la lb : List Nat) (w : World) (ha : BytesAt w va la) (hb : BytesAt w vb lb) (h1 : 0 < la.length) (h2 : 0 < lb.length) (hA : Crc.Bytes la) (hB : Crc.Bytes lb) :
    Calls Try.prog 25 #[va, vb] w fun e w' => e = .returned (.bool (decide (la = lb))) ∧ w = w' := by
  have c1 := convert_bytes ha h1
  have c2 := convert_bytes hb h2
  have e := strOf_inj hA hB
  generalize strOf la = sa at *
  generalize strOf lb = sb at *
  generalize decide (la = lb) = r at *
  clear ha hb
  go_enter Try.func25, Try.ntmps25
  go_wp2_with fail
  go_ret
  exact ⟨rfl, rfl⟩

set_option maxRecDepth 100000 in
set_option maxHeartbeats 1600000 in
theorem clone_any (v : Value) (l : List Nat) (w : World) (hd : BytesAt w v l) (hl : l.length ≤ 140737488355328) :
    Calls Try.prog 27 #[v] w fun e w' => ∃ v', e = .returned v' ∧ Owns w.heap.size w' v' l ∧ Below w.heap.size w w' := by
  obtain ⟨ao, cap, rfl, h0⟩ := hd.form
  have HD := Lib.hid hd; clear hd
  have hn := fun (w : World) (a : Option Addr) (n c : Nat) => Lib.run_eql_slice_nil (P := Try.prog) w 23 5 a n c 0 0 Try.underlying23
  cases ao with
  | none =>
    obtain ⟨hl0, rfl⟩ := h0 rfl
    obtain rfl := List.eq_nil_of_length_eq_zero hl0
    go_enter Try.func27, Try.ntmps27
    go_wp2
    go_ret
    exact ⟨_, rfl, Owns.nil _ _, Below.refl _ _⟩
  | some a =>
    go_enter Try.func27, Try.ntmps27
    go_wp2_with (at_builtin; refine wpList_append_bytes rfl (.tmp 5) (.tmp 6) rfl w.heap.size (.slice (some ⟨w.heap.size, 0, none⟩) 0 0) [] rfl (World.ownsRow_made w #[] 0 (Nat.le_refl _) (Nat.zero_le _) rfl) _ l rfl (HD.out.later ((Below.refl _ _).alloc (Nat.le_refl _) _)) (by simp; omega) (by simp) ?_; intro v' w' hown hgrow; rw [List.nil_append] at hown; have HO := Lib.hid hown; clear hown; have HG := Lib.hid hgrow; clear hgrow)
    go_ret
    refine ⟨_, rfl, HO.out, ((Below.refl _ _).alloc (Nat.le_refl _) _).grown HG.out (by simp) (fun k hk => ?_)⟩
    simp [Value.ownBlock] at hk
    omega

theorem results_cell3 {P : Program} {w : World} {fn : Func} {a T b t u : Nat} {cs : List Value} {d : TypeDesc} (h : fn.results = #[.cell a T, .tmp t, .tmp u]) (tmps : Array Value) (ht : tmps.getD a undef = .pointer (some ⟨b, 0, none⟩)) (hc : w.rangeAt b 0 cs)
    (hu : P.underlying T = some d) (hd : d.isRow = true) (hi : (P.info? T).map (·.size) = some cs.length) : (results fn tmps).run P w = .ok (.tuple #[.agg cs.toArray, tmps.getD t undef, tmps.getD u undef]) w := by
  simp only [results, h, List.mapM_cons, List.mapM_nil, ht, asAddr, Sem.run_bind, Sem.run_pure, Result.andThen_ok, run_loadVar_mid w b 0 T cs d hc hu hd hi, Array.mapM_eq_mapM_toList, Sem.run_map]
  rfl
end Go.Proofs.Ytodmpchnjakchaa
