/-
  The model: read. (Written by gen_mdread.py.)
-/
import Derived.Test.YtmanldcohbegkaaMdCopy
namespace Go.Proofs.Ytmanldcohbegkaa
open Go.RowKit

/-- A block as it reads. -/
def blockOf (v : Vo) (at_ : Int) : List Nat := (getAt at_ v.bl).getD (zeros 64)
def readS (v : Vo) (at_ : Int) : Nat → List Nat
  | 0 => []
  | k + 1 => readS v at_ k ++ blockOf v (at_ + k)
def VoOk (v : Vo) : Prop := ∀ p ∈ v.bl, p.2.length = 64
theorem blockOf_length {v : Vo} (h : VoOk v) (at_ : Int) : (blockOf v at_).length = 64 := by
  unfold blockOf
  cases hg : getAt at_ v.bl with
  | none => rfl
  | some l => exact h _ (getAt_mem _ _ _ hg)
theorem readS_length {v : Vo} (h : VoOk v) (at_ : Int) : ∀ k, (readS v at_ k).length = k * 64
  | 0 => rfl
  | k + 1 => by rw [readS, List.length_append, readS_length h at_ k, blockOf_length h]; omega
theorem VolAt.ok [Zs] {w : World} {p b : Nat} {v : Vo} (h : VolAt w p b v) : VoOk v := by
  obtain ⟨es, _, h2, h3⟩ := h.map
  intro q hq
  rw [h2] at hq
  obtain ⟨e, he, rfl⟩ := List.mem_map.1 hq
  exact (h3 e he).2.1
/-- What a block's look-up yields: nil, or a slice of its bytes. -/
theorem MapAt.look [Zs] {w : World} {b : Nat} {bl : List (Int × List Nat)} (h : MapAt w b bl) : ∃ l, MapIs w b l ∧ l.length = bl.length ∧ ∀ k, (getAt k bl = none ∧ getAt k l = none) ∨ ∃ v d, getAt k bl = some d ∧ getAt k l = some v ∧ DataAt w v d := by
  obtain ⟨es, h1, h2, h3⟩ := h
  refine ⟨_, h1, by rw [h2]; simp, fun k => ?_⟩
  have e1 := getAt_map (fun e : Value × List Nat => e.1) k es
  have e2 := getAt_map (fun e : Value × List Nat => e.2) k es
  rw [h2, e1, e2]
  cases hg : getAt k es with
  | none => exact .inl ⟨rfl, rfl⟩
  | some q => exact .inr ⟨q.1, q.2, rfl, rfl, h3 _ (getAt_mem _ _ _ hg)⟩
theorem zeros_take (n k : Nat) : (zeros n).drop k = zeros (n - k) := by simp [zeros]
theorem zeros_add (a b : Nat) : zeros (a + b) = zeros a ++ zeros b := by simp [zeros, List.replicate_append_replicate]
theorem read_step0 {v : Vo} (at_ : Int) (k N : Nat) (hb : blockOf v (at_ + (k : Int)) = zeros 64) (hN : k * 64 + 64 ≤ N) : readS v at_ (k + 1) ++ zeros (N - (k + 1) * 64) = readS v at_ k ++ zeros (N - k * 64) := by
  rw [readS, hb, List.append_assoc, ← zeros_add]
  congr 2; omega
theorem read_step1 {v : Vo} (h : VoOk v) (at_ : Int) (k N : Nat) (d : List Nat) (hb : blockOf v (at_ + (k : Int)) = d) (hd : d.length = 64) : readS v at_ (k + 1) ++ zeros (N - (k + 1) * 64) = (readS v at_ k ++ zeros (N - k * 64)).take (k * 64) ++ d ++ (readS v at_ k ++ zeros (N - k * 64)).drop (k * 64 + d.length) := by
  have hl := readS_length h at_ k
  rw [readS, hb, hd]
  rw [List.take_append_of_le_length (by omega), List.take_of_length_le (by omega), List.append_assoc, List.append_assoc]
  congr 2
  rw [List.drop_append, List.drop_of_length_le (by omega), List.nil_append, zeros_take]
  congr 1; omega

set_option maxRecDepth 100000 in
set_option maxHeartbeats 6400000 in
theorem read_any [Zs] (p b : Nat) (v : Vo) (at_ : Int) (c : Nat) (w : World) (h : VolAt w p b v) (h0 : 0 ≤ at_) (h1 : at_ ≤ 1048576) (hc : c ≤ 8) :
    Calls Try.prog 35 #[.pointer (some ⟨p, 0, none⟩), .int .i64 at_, .int .i64 (c : Int)] w fun r w' => ∃ rv, r = .returned rv ∧ Owns w.heap.size w' rv (readS v at_ c) ∧ Below w.heap.size w w' := by
  have hok := Lib.hid h.ok
  obtain ⟨N, hN⟩ : ∃ N, N = c * 64 := ⟨_, rfl⟩
  have hN1 : N ≤ 512 := by omega
  have hN2 : N ≤ c * 64 := by omega
  have hN3 : c * 64 ≤ N := by omega
  have hcN : IntKind.i64.wrap ((c : Int) * 64) = (N : Int) := by rw [IntWalk.i64_in _ (by omega)]; omega
  obtain ⟨W, hmk, hown0, hbel0, hsz0⟩ := make_bytes N w (by omega)
  have HN := Lib.hid hN; clear hN
  have hpl := h.str.lt
  have hbl := h.map.lt
  have HV := Lib.hid h; clear h
  have HB0 := Lib.hid hbel0; clear hbel0
  have HO0 := Lib.hid hown0; clear hown0
  go_enter Try.func35, Try.ntmps35
  go_wp2_with fail
  go_loopw [13] (fun i wr => ∃ k : Nat, k ≤ c ∧ i = .int .i64 k ∧ Below w.heap.size w wr ∧ Owns w.heap.size wr (.slice (some ⟨w.heap.size, 0, none⟩) N N) (readS v at_ k ++ zeros (N - k * 64))) (fun i _ => c - (intOf i).toNat)
  case atStart =>
    refine ⟨0, by omega, rfl, HB0.out, ?_⟩
    have := HO0.out
    simpa [readS] using this
  case round =>
    obtain ⟨k, hk, rfl, hbel, hown⟩ := hrel
    have HB := Lib.hid hbel; clear hbel
    have HO := Lib.hid hown; clear hown
    by_cases hlt : k < c
    · have hkn : (k : Int) < (c : Int) := by omega
      have hV : VolAt wr p b v := HV.out.keeps (F := fun _ => False) (Keeps.of_below HB.out) (fun h => h) (fun h => h) (fun _ _ _ h => h)
      have hp3 := hV.str.cell 3
      simp only [Vo.cells, List.getElem?_toArray, List.getElem?_cons_zero, List.getElem?_cons_succ] at hp3
      obtain ⟨l, hml, _, hlook⟩ := hV.map.look
      have HL := Lib.hid hlook; clear hlook hV
      have hs1 : (0 : Int) ≤ (k : Int) * 64 ∧ (k : Int) * 64 ≤ (N : Int) := by omega
      have hs3 : ((k : Int) * 64).toNat = k * 64 := by omega
      have hs4 : ¬ N = k * 64 := by omega
      have hk64 : IntKind.i64.wrap ((k : Int) * 64) = ((k * 64 : Nat) : Int) := by rw [IntWalk.i64_in _ (by omega)]; omega
      have hat : IntKind.i64.wrap (at_ + (k : Int)) = at_ + (k : Int) := IntWalk.i64_in _ (by omega)
      have hkN : k * 64 + 64 ≤ N := by omega
      have hlen : (readS v at_ k).length = k * 64 := readS_length hok.out at_ k
      have HLen := Lib.hid hlen; clear hlen
      have HML := Lib.hid hml
      go_upto_region 5 with fail
      refine wp_region_held_drew (S := fun w' => w'.cell? ⟨p, 3, none⟩ = some (.map (some b)) ∧ MapIs w' b l) (by kernel_rfl) ⟨hp3, hml⟩ (fun hHeld => ?_)
      refine wpAnyH_take (i := 0) (v := .slice (some ⟨w.heap.size, 0, none⟩) N N) ops_at0 (by kernel_rfl) (by kernel_rfl) (by kernel_rfl) (fun _ _ _ h => h) (Or.inl ⟨by rfl, fun V hV => ?_⟩) hHeld ?_
      · go_simp
      simp only [Act.put, List.setIfInBounds_toArray, List.set_cons_zero, List.set_cons_succ]
      refine wpAnyH_take (i := 1) (v := .int .i64 (k : Int)) ops_at1 (by kernel_rfl) (by kernel_rfl) (by kernel_rfl) (fun _ _ _ h => h) (Or.inl ⟨by rfl, fun V hV => ?_⟩) hHeld ?_
      · go_simp
      simp only [Act.put, List.setIfInBounds_toArray, List.set_cons_zero, List.set_cons_succ]
      refine wpAnyH_take (i := 2) (v := .int .i64 ((k : Int) * 64)) ops_at2 (by kernel_rfl) (by kernel_rfl) (by kernel_rfl) (fun _ _ _ h => h) (Or.inl ⟨by rfl, fun V hV => ?_⟩) hHeld ?_
      · go_simp
      simp only [Act.put, List.setIfInBounds_toArray, List.set_cons_zero, List.set_cons_succ]
      refine wpAnyH_take (i := 3) (v := .slice (some ⟨w.heap.size, k * 64, none⟩) (N - k * 64) (N - k * 64)) ops_at3 (by kernel_rfl) (by kernel_rfl) (by kernel_rfl) (fun _ _ _ h => h) (Or.inl ⟨by rfl, fun V hV => ?_⟩) hHeld ?_
      · go_simp
        all_goals (rw [if_pos hs1, hs3, if_neg hs4])
      simp only [Act.put, List.setIfInBounds_toArray, List.set_cons_zero, List.set_cons_succ]
      refine wpAnyH_take (i := 4) (v := .pointer (some ⟨p, 0, none⟩)) ops_at4 (by kernel_rfl) (by kernel_rfl) (by kernel_rfl) (fun _ _ _ h => h) (Or.inl ⟨by rfl, fun V hV => ?_⟩) hHeld ?_
      · go_simp
      simp only [Act.put, List.setIfInBounds_toArray, List.set_cons_zero, List.set_cons_succ]
      refine wpAnyH_take (i := 5) (v := .pointer (some ⟨p, 0, none⟩)) ops_at5 (by kernel_rfl) (by kernel_rfl) (by kernel_rfl) (fun _ _ _ h => h) (Or.inl ⟨by rfl, fun V hV => ?_⟩) hHeld ?_
      · go_simp
      simp only [Act.put, List.setIfInBounds_toArray, List.set_cons_zero, List.set_cons_succ]
      refine wpAnyH_take (i := 6) (v := .pointer (some ⟨p, 3, none⟩)) ops_at6 (by kernel_rfl) (by kernel_rfl) (by kernel_rfl) (fun _ _ _ h => h) (Or.inl ⟨by rfl, fun V hV => ?_⟩) hHeld ?_
      · go_simp
      simp only [Act.put, List.setIfInBounds_toArray, List.set_cons_zero, List.set_cons_succ]
      refine wpAnyH_take (i := 7) (v := .map (some b)) ops_at7 (by kernel_rfl) (by kernel_rfl) (by kernel_rfl) (fun _ _ _ h => h) (Or.inl ⟨by rfl, fun V hV => ?_⟩) hHeld ?_
      · obtain ⟨hV1, hV2⟩ := hV
        go_simp
      simp only [Act.put, List.setIfInBounds_toArray, List.set_cons_zero, List.set_cons_succ]
      refine wpAnyH_take (i := 8) (v := .int .i64 at_) ops_at8 (by kernel_rfl) (by kernel_rfl) (by kernel_rfl) (fun _ _ _ h => h) (Or.inl ⟨by rfl, fun V hV => ?_⟩) hHeld ?_
      · go_simp
      simp only [Act.put, List.setIfInBounds_toArray, List.set_cons_zero, List.set_cons_succ]
      refine wpAnyH_take (i := 9) (v := .int .i64 (k : Int)) ops_at9 (by kernel_rfl) (by kernel_rfl) (by kernel_rfl) (fun _ _ _ h => h) (Or.inl ⟨by rfl, fun V hV => ?_⟩) hHeld ?_
      · go_simp
      simp only [Act.put, List.setIfInBounds_toArray, List.set_cons_zero, List.set_cons_succ]
      refine wpAnyH_take (i := 10) (v := .int .i64 (at_ + (k : Int))) ops_at10 (by kernel_rfl) (by kernel_rfl) (by kernel_rfl) (fun _ _ _ h => h) (Or.inl ⟨by rfl, fun V hV => ?_⟩) hHeld ?_
      · go_simp
      simp only [Act.put, List.setIfInBounds_toArray, List.set_cons_zero, List.set_cons_succ]
      refine wpAnyH_take (i := 11) (v := (getAt (at_ + (k : Int)) l).getD (.slice none 0 0)) ops_at11 (by kernel_rfl) (by kernel_rfl) (by kernel_rfl) (fun _ _ _ h => h) (Or.inl ⟨by rfl, fun V hV => ?_⟩) hHeld ?_
      · obtain ⟨hV1, hV2⟩ := hV
        have hlk := run_look hV2 (at_ + (k : Int)) false
        go_simp
      simp only [Act.put, List.setIfInBounds_toArray, List.set_cons_zero, List.set_cons_succ]
      rcases HL.out (at_ + (k : Int)) with ⟨e1, e2⟩ | ⟨dv, d, e1, e2, hd⟩
      · rw [e2, Option.getD_none]
        have hbo : blockOf v (at_ + (k : Int)) = zeros 64 := by unfold blockOf; rw [e1]; rfl
        have HBO := Lib.hid hbo; clear hbo
        clear e1 e2
        refine wpAnyH_ready (rs := [12]) (by kernel_rfl) (by simp) ?_
        refine AllReadyH.cons ops_at12 (fun K hK => ?_) AllReadyH.nil
        rw [if_pos (by rfl)]
        go_simp
        refine hK.out _ _ ⟨hp3, HML.out⟩ (fun hHeld2 => ?_)
        clear hK K
        refine wpAnyH_done (by kernel_rfl) ?_ _
        go_wp2
        go_roundw
        case rel =>
          refine ⟨k + 1, by omega, by simp, HB.out.drew, ?_⟩
          have hh := (Keeps.refl (fun _ => False) wr).drew.owns HO.out (fun _ _ h => h)
          have ee := read_step0 at_ k N HBO.out hkN
          unfold Owns
          rw [ee]
          exact hh
        case measure => simp only [intOf]; omega
      · rw [e2, Option.getD_some]
        have hbo : blockOf v (at_ + (k : Int)) = d := by unfold blockOf; rw [e1]; rfl
        have HBO := Lib.hid hbo; clear hbo
        clear e1 e2
        have hdl := hd.2.1
        have hdb := hd.1.bytes
        obtain ⟨g, cap, _, hdv, _⟩ := hd.form
        subst hdv
        have hcells : ∀ j, j < d.length → wr.cell? ((⟨g, 0, none⟩ : Addr).add j) = some (.int .u8 (d.getD j 0 : Nat)) := by
          intro j hj
          rw [Go.WideShapes.add_plain, Nat.zero_add]
          exact hd.1.cellNo j hj
        have HC := Lib.hid hcells; clear hcells hdb hd
        refine wpAnyH_ready (rs := [12]) (by kernel_rfl) (by simp) ?_
        refine AllReadyH.cons ops_at12 (fun K hK => ?_) AllReadyH.nil
        rw [show (Value.slice (some ⟨g, 0, none⟩) 64 cap) = .slice (some ⟨g, 0, none⟩) d.length cap by rw [hdl]]
        refine step_copy_owns rfl (.tmp 19) (.tmp 27) rfl w.heap.size w.heap.size (k * 64) N N (N - k * 64) (N - k * 64) (readS v at_ k ++ zeros (N - k * 64)) d ⟨g, 0, none⟩ cap rfl rfl ((Keeps.refl (fun _ => False) wr).drew.owns HO.out (fun _ _ h => h)) HC.out (by omega) (by omega) (fun w' ho hk => ?_)
        have HO2 := Lib.hid ho; clear ho
        have hb2 : Below w.heap.size wr w' := ((Keeps.refl (fun x => x = w.heap.size) wr).drew.trans hk (fun _ _ h => h)).below HB.out.size (fun z h1 h2 => by omega)
        have HB2 := Lib.hid (HB.out.trans hb2); clear hk
        have h33 : w'.cell? ⟨p, 3, none⟩ = some (.map (some b)) := (World.cell?_of_block (w := wr) (hb2.block p hpl)).trans hp3
        have h34 : MapIs w' b l := HML.out.keeps (F := fun x => ¬ x < w.heap.size) ⟨hb2.os, hb2.tape, hb2.output, hb2.size, fun i _ hi => hb2.block i (by omega)⟩ (by omega)
        clear hb2
        refine hK.out _ _ ⟨h33, h34⟩ (fun hHeld2 => ?_)
        clear hK K h33 h34
        refine wpAnyH_done (by kernel_rfl) ?_ _
        go_wp2
        go_roundw
        case rel =>
          refine ⟨k + 1, by omega, by simp, HB2.out, ?_⟩
          have ee := read_step1 hok.out at_ k N d HBO.out hdl
          rw [ee]
          exact HO2.out
        case measure => simp only [intOf]; omega
    · obtain rfl : k = c := by omega
      have hkk : ¬ (k : Int) < (k : Int) := by omega
      go_wp2
      go_ret
      refine ⟨_, rfl, ?_, HB.out⟩
      have := HO.out
      have e : N - k * 64 = 0 := by omega
      rw [e] at this
      simpa [zeros] using this
end Go.Proofs.Ytmanldcohbegkaa
