/-
  The document's model: blockwise. (Written by gen_rfblock.py.)
-/
import Derived.Test.YtmanldcohbegkaaRfPut
import Derived.RegionTactic
import Derived.ChangeAlike
namespace Go.Proofs.Ytmanldcohbegkaa
open Go.RowKit

theorem setVol_self {S : Mo} {i : Nat} {v : Vo} (h : S.vols[i]? = some v) : S.setVol i v = S := by
  unfold Mo.setVol
  obtain ⟨hi, e⟩ := List.getElem?_eq_some_iff.1 h
  rw [← e, List.set_getElem_self]
theorem setVol_twice (S : Mo) (i : Nat) (u v : Vo) : (S.setVol i u).setVol i v = S.setVol i v := by
  unfold Mo.setVol
  simp only [List.set_set]
/-- What was made since B, beside W. -/
def since (W : Nat → Prop) (B E : Nat) : Nat → Prop := fun x => W x ∨ (B ≤ x ∧ x < E)
theorem wo_vals (k : Int) (es : REs) : REs.vals (wo k es) = wo k es.vals := (wo_map (fun e : Value × List Nat => e.1) k es).symm
theorem wo_data (k : Int) (es : REs) : REs.data (wo k es) = wo k es.data := (wo_map (fun e : Value × List Nat => e.2) k es).symm
theorem wo_sub {β : Type} {k : Int} {l : List (Int × β)} {e : Int × β} (h : e ∈ wo k l) : e ∈ l := (List.mem_filter.1 h).1
/-- Where the loop stands. -/
structure BlkAt (w : World) (r g n c i : Nat) (S : Mo) (W : Nat → Prop) (t : Tk) (v : Vo) (k : Nat) (wr : World) (bl : List (Int × List Nat)) (bv : Value) (vs : List (Vo × Value)) : Prop where
  pl : vs[i]? = some ({ v with bl := bl }, bv)
  ref : RefIs wr r (.slice (some ⟨g, 0, none⟩) n c) vs (S.setVol i { v with bl := bl }) (since W w.heap.size wr.heap.size)
  inv : BlkInv t v k bl
  kp : Keeps (fun x => x = g) w wr
theorem BlkAt.row {w : World} {r g n c i : Nat} {S : Mo} {W : Nat → Prop} {t : Tk} {v : Vo} {k : Nat} {wr : World} {bl : List (Int × List Nat)} {bv : Value} {vs : List (Vo × Value)} (h : BlkAt w r g n c i S W t v k wr bl bv vs) (hq : v.quota ≤ 1048576) : ∃ (es : REs) (ba : Option Addr) (bc : Nat), bv = .slice ba es.length bc ∧ RRow (since W w.heap.size wr.heap.size) wr bv es ∧ SameBl es.data bl ∧ es.length = bl.length ∧ es.length ≤ 1048576 := by
  obtain ⟨es, hr, hs⟩ := h.ref.bl _ (List.mem_of_getElem? h.pl)
  obtain ⟨ba, bc, e, _⟩ := ownsForm hr.row
  have hl := hs.len
  simp only [REs.data, List.length_map] at hl
  have := h.inv.ok.room
  exact ⟨es, ba, bc, e, hr, hs, hl, by omega⟩
/-- The store that ends a round. -/
theorem BlkAt.next {w : World} {r g n c i : Nat} {S : Mo} {W : Nat → Prop} {t : Tk} {v : Vo} {k : Nat} {wr wx : World} {bl bl' : List (Int × List Nat)} {bv bv' : Value} {vs : List (Vo × Value)} {es' : REs} (h : BlkAt w r g n c i S W t v k wr bl bv vs) (hb : Below wr.heap.size wr wx)
    (hrow : wx.ownsRow wr.heap.size 87 2 bv' es'.length (bcells es'.vals)) (hdat : ∀ e ∈ es', RData (since W w.heap.size wx.heap.size) wx e.2.1 e.2.2) (hs : SameBl es'.data bl') (hi : BlkInv t v (k + 1) bl') :
    BlkAt w r g n c i S W t v (k + 1) (wx.setCell ⟨g, i * 4 + 3, none⟩ bv') bl' bv' (vs.set i ({ v with bl := bl' }, bv')) := by
  have hsz : w.heap.size ≤ wr.heap.size := h.kp.size
  have hzs : (wx.setCell ⟨g, i * 4 + 3, none⟩ bv').heap.size = wx.heap.size := by simp [World.setCell]
  have hil : i < vs.length := (List.getElem?_eq_some_iff.1 h.pl).1
  refine ⟨by simp [hil], ?_, hi, ?_⟩
  · have h2 := h.ref.put (W' := since W w.heap.size wx.heap.size) h.pl (Keeps.of_below (F := fun _ => False) hb) (fun _ _ h => h) (fun x hx => hx.imp id (fun hx => ⟨hx.1, Nat.lt_of_lt_of_le hx.2 hb.size⟩)) (fun x hx => by
      rcases hx with hx | hx
      · exact Nat.lt_of_lt_of_le (h.ref.lt x (.inl hx)) hb.size
      · exact hx.2) ⟨World.ownsRow.mono hrow (Nat.zero_le _), hdat, fun x hx => .inr ⟨by have := (hrow.lt x hx).1; omega, (hrow.lt x hx).2⟩⟩ hs
    rw [setVol_twice] at h2
    rw [hzs]
    exact h2
  · exact (h.kp.trans (Keeps.of_below (F := fun x => x = g) hb) (fun _ _ h => h)).setCell (p := ⟨g, i * 4 + 3, none⟩) (fun _ => rfl) _
theorem BlkAt.wodat {w : World} {r g n c i : Nat} {S : Mo} {W : Nat → Prop} {t : Tk} {v : Vo} {k : Nat} {wr wx : World} {bl : List (Int × List Nat)} {bv : Value} {vs : List (Vo × Value)} {es : REs} (_h : BlkAt w r g n c i S W t v k wr bl bv vs) (hr : RRow (since W w.heap.size wr.heap.size) wr bv es) (hb : Below wr.heap.size wr wx) (k0 : Int) : ∀ e ∈ (wo k0 es : REs), RData (since W w.heap.size wx.heap.size) wx e.2.1 e.2.2 := fun e he =>
  ((hr.dat e (wo_sub he)).keeps (Keeps.of_below (F := fun _ => False) hb) (fun _ _ h => h)).more (fun _ hx => hx.imp id (fun hx => ⟨hx.1, Nat.lt_of_lt_of_le hx.2 hb.size⟩))

set_option maxRecDepth 100000 in
set_option maxHeartbeats 6400000 in
theorem rblock_any (r : Nat) (lv : Value) (vs : List (Vo × Value)) (S : Mo) (W : Nat → Prop) (t : Tk) (da : Option Addr) (dc : Nat) (i : Nat) (v : Vo) (n0 : Nat) (w : World) (h : RefIs w r lv vs S W) (hg : Good S) (hat : S.at t.vol = some (i, v)) (h35 : t.op = 3 ∨ t.op = 5) (hn0 : (n0 : Int) ≤ t.cnt) (hc8 : t.cnt ≤ 8) (hl0 : 0 ≤ t.lba) (hl1 : t.lba ≤ 1048576) (hd : BytesAt w (.slice da t.data.length dc) t.data) (hdc : t.data.length ≤ dc) (hdl : t.op = 3 → (t.data.length : Int) = t.cnt * 64) (hdw : LiesIn (.slice da t.data.length dc) fun x => ¬ W x) :
    Calls Try.prog 28 #[.pointer (some ⟨r, 0, none⟩), .agg (t.cells (.slice da t.data.length dc)), .int .i64 (n0 : Int)] w fun e w' => ∃ (k : Nat) (s : Int), (blockS S t n0).1 = (k, s) ∧ e = .returned (.tuple #[.int .i64 (k : Int), .int .i64 s]) ∧ ∃ vs' W', RefIs w' r lv vs' (blockS S t n0).2 W' ∧ Keeps (fun x => lv.ownBlock = some x) w w' ∧ ∀ x, W' x → W x ∨ w.heap.size ≤ x := by
  have hlen8 : vs.length ≤ 8 := by rw [h.len]; exact hg.len
  obtain ⟨hfd, hv⟩ := Mo.at_some hat
  have hfi : firstAt (fun v : Vo => v.id == t.vol) S.vols = (i : Int) := by rw [find_first, hfd]
  have hvm := List.mem_of_getElem? hv
  have hq := hg.quota v hvm
  have hbk := hg.bl hvm
  obtain ⟨w1, hw1⟩ : ∃ w1, w1 = w.alloc (.cells (t.cells (.slice da t.data.length dc)) 30) := ⟨_, rfl⟩
  have hb1 : Below w.heap.size w w1 := by rw [hw1]; exact allocBelow w _
  have hc1' : CellsAt w1 w.heap.size (t.cells (.slice da t.data.length dc)) 30 := by rw [hw1]; exact heap_at rfl
  have h1 := h.below hb1
  obtain ⟨bv0, hp0, _⟩ := h1.atRow hv
  have hil : i < vs.length := (List.getElem?_eq_some_iff.1 hp0).1
  obtain ⟨a, c, rfl, hform⟩ := ownsForm h1.row
  obtain ⟨g, rfl, hgl⟩ : ∃ g, a = some ⟨g, 0, none⟩ ∧ g < w1.heap.size := by
    rcases hform with ⟨_, h0, _⟩ | ⟨g, e, hl⟩
    · omega
    · exact ⟨g, e, hl⟩
  have hgW : W g := h.inL g rfl
  have hgw : g < w.heap.size := h.lt g hgW
  have hgt : ¬ w.heap.size = g := by omega
  have HDW := Lib.hid (show ∀ x, da = some x → 0 < t.data.length → x.block ≠ g from fun x e h0 hx => hdw x _ _ (by rw [e]) h0 (by rw [hx]; exact hgW)); clear hdw
  obtain ⟨n, hn⟩ : ∃ n, n = vs.length := ⟨_, rfl⟩
  rw [← hn] at h1 hil ⊢
  have HSTART := Lib.hid (show BlkAt w r g n c i S W t v 0 w1 v.bl bv0 vs from ⟨hp0, by
      have : S.setVol i { v with bl := v.bl } = S := setVol_self hv
      rw [this]
      exact ⟨h1.head, h1.row, h1.vols, fun p hp => by obtain ⟨es, h3, h4⟩ := h1.bl p hp; exact ⟨es, h3.more (fun x hx => .inl hx), h4⟩, .inl h1.inR, fun x hx => .inl (h1.inL x hx), fun x hx => by rcases hx with hx | hx; exact h1.lt x hx; exact hx.2⟩, BlkInv.start hbk, Keeps.of_below hb1⟩)
  rw [hn] at h1
  have HF := Lib.hid (rfind_any r _ vs S W t.vol w1 h1 hlen8)
  rw [hfi] at HF
  have hpost : ∀ (e : Ending) (wr : World) (k : Nat) (s : Int) (bl : List (Int × List Nat)) (bv : Value) (vs' : List (Vo × Value)) (k' : Nat), e = .returned (.tuple #[.int .i64 (k : Int), .int .i64 s]) → blockS S t n0 = ((k, s), S.setVol i { v with bl := bl }) → BlkAt w r g n c i S W t v k' wr bl bv vs' → ∀ wy, Below wr.heap.size wr wy →
      ∃ (k : Nat) (s : Int), (blockS S t n0).1 = (k, s) ∧ e = .returned (.tuple #[.int .i64 (k : Int), .int .i64 s]) ∧ ∃ vs' W', RefIs wy r (.slice (some ⟨g, 0, none⟩) n c) vs' (blockS S t n0).2 W' ∧ Keeps (fun x => (Value.slice (some ⟨g, 0, none⟩) n c).ownBlock = some x) w wy ∧ ∀ x, W' x → W x ∨ w.heap.size ≤ x := by
    intro e wr k s bl bv vs' k' he hb hB wy hby
    refine ⟨k, s, by rw [hb], he, vs', since W w.heap.size wr.heap.size, by rw [hb]; exact hB.ref.below hby, (hB.kp.trans (Keeps.of_below (F := fun _ => False) hby) (fun _ _ h => h.elim)).mono (fun x _ hx => by rw [hx]; rfl), fun x hx => hx.imp id (fun hx => hx.1)⟩
  have HPOST := Lib.hid hpost; clear hpost
  have HB1 := Lib.hid hb1; clear hb1
  have HC1 := Lib.hid hc1'; clear hc1'
  have HD := Lib.hid hd; clear hd
  obtain ⟨dn, hdn⟩ : ∃ dn, dn = t.data.length := ⟨_, rfl⟩
  rw [← hdn] at HC1 HD hdc hdl hw1 HDW ⊢
  have HDN := Lib.hid hdn; clear hdn
  have HAT := Lib.hid hat; clear hat
  have H35 := Lib.hid h35; clear h35
  have HDL := Lib.hid hdl; clear hdl
  have hin : (i : Int) < (n : Int) := by omega
  have hi0 : (0 : Int) ≤ (i : Int) := by omega
  have hiz : ((i : Int)).toNat = i := by omega
  have htl : w.heap.size < w1.heap.size := HC1.out.lt
  have x5 := HC1.out.cell 5
  simp only [Tk.cells, List.getElem?_toArray, List.getElem?_cons_zero, List.getElem?_cons_succ] at x5
  have hn08 : n0 ≤ 8 := by omega
  have HN0 := Lib.hid hn0; clear hn0
  clear hform hn h1 h hp0 hfi hfd hv hvm hlen8 hbk
  unfold Tk.cells at hw1 ⊢
  go_enter Try.func28, Try.ntmps28
  go_upto_region 1 with fail
  rw [← hw1]
  clear hw1
  go_wp2_with fail
  refine HF.out.mono ?_
  rintro e w2 ⟨rfl, rfl⟩
  clear HF x5
  go_wp2_with fail
  go_loopw [9, 10, 11, 12, 13] (fun a b c' d e wr => ∃ k : Nat, k ≤ n0 ∧ a = .int .i64 (k : Int) ∧ ∃ bl bv vs', BlkAt w r g n c i S W t v k wr bl bv vs' ∧ CellsAt wr w.heap.size (t.cells (.slice da dn dc)) 30) (fun a _ _ _ _ _ => n0 - (intOf a).toNat)
  case atStart => exact ⟨0, by omega, rfl, v.bl, bv0, vs, HSTART.out, HC1.out⟩
  case round =>
    obtain ⟨k, hk, rfl, bl, bv, vs', hB, hct⟩ := hrel
    clear HSTART
    have HBK := Lib.hid hB; clear hB
    have HCT := Lib.hid hct; clear hct
    by_cases hlt : k < n0
    rotate_left
    · obtain rfl : n0 = k := by omega
      have hkk : ¬ (n0 : Int) < (n0 : Int) := by omega
      go_wp2
      go_ret2
      exact HPOST.out _ _ _ _ _ _ _ _ rfl (HBK.out.inv.done HAT.out H35.out) HBK.out _ (Below.refl _ _)
    have hkn : (k : Int) < (n0 : Int) := by omega
    have hk0 : (0 : Int) ≤ (k : Int) := by omega
    have hkz : ((k : Int)).toNat = k := by omega
    obtain ⟨es, ba, bc, rfl, hrr, hsb, hel, hel2⟩ := HBK.out.row hq.2
    obtain ⟨m, hm⟩ : ∃ m, m = es.length := ⟨_, rfl⟩
    rw [← hm] at HBK hrr hel2
    have hm1 : m ≤ es.length := by omega
    have hm2 : es.length ≤ m := by omega
    have hmb : m = bl.length := by omega
    clear hm hel
    have HMB := Lib.hid hmb; clear hmb
    have hb0 := HBK.out.ref.head.cell 0
    simp only [List.getElem?_toArray, List.getElem?_cons_zero] at hb0
    have y0 := HBK.out.ref.cell HBK.out.pl 0 (by omega)
    have y1 := HBK.out.ref.cell HBK.out.pl 1 (by omega)
    have y2 := HBK.out.ref.cell HBK.out.pl 2 (by omega)
    have y3 := HBK.out.ref.cell HBK.out.pl 3 (by omega)
    simp only [vcell4, List.getElem?_cons_zero, List.getElem?_cons_succ, Nat.add_zero] at y0 y1 y2 y3
    have t6 := HCT.out.cell 6
    have t2 := HCT.out.cell 2
    simp only [Tk.cells, List.getElem?_toArray, List.getElem?_cons_zero, List.getElem?_cons_succ] at t6 t2
    have HR := Lib.hid hrr; clear hrr
    have HSB := Lib.hid hsb; clear hsb
    obtain ⟨vb, hvb⟩ : ∃ vb, vb = wr.heap.size := ⟨_, rfl⟩
    obtain ⟨w2, hw2⟩ : ∃ w2, w2 = wr.alloc (.cells #[.int .i64 v.id, .int .i64 v.size, .int .i64 v.quota, .slice ba m bc] 69) := ⟨_, rfl⟩
    have hb2 : Below wr.heap.size wr w2 := by rw [hw2]; exact allocBelow wr _
    have HVB := Lib.hid (show CellsAt w2 vb #[.int .i64 v.id, .int .i64 v.size, .int .i64 v.quota, .slice ba m bc] 69 by rw [hw2, hvb]; exact heap_at rfl)
    go_upto_region 6 with fail
    rw [← hw2, ← hvb]
    clear hw2 hvb hb0 y0 y1 y2 y3
    have t6' := (hb2.cell (p := ⟨w.heap.size, 6, none⟩) (block_lt t6)).trans t6
    have t2' := (hb2.cell (p := ⟨w.heap.size, 2, none⟩) (block_lt t2)).trans t2
    clear t6 t2
    have v0 := HVB.out.cell 0
    have v1 := HVB.out.cell 1
    have v2 := HVB.out.cell 2
    have v3 := HVB.out.cell 3
    simp only [List.getElem?_toArray, List.getElem?_cons_zero, List.getElem?_cons_succ] at v0 v1 v2 v3
    have hww : IntKind.i64.wrap (t.lba + (k : Int)) = t.lba + (k : Int) := IntWalk.i64_in _ (by omega)
    have HR2 := Lib.hid (HR.out.keeps (Keeps.of_below (F := fun _ => False) hb2) (fun _ _ h => h))
    have HB2 := Lib.hid hb2; clear hb2
    have HMP := Lib.hid (mapped_any _ v (.slice ba m bc) es (t.lba + (k : Int)) w2 HR2.out (by omega))
    have hsame := HSB.out.get (t.lba + (k : Int))
    rw [getAt_data] at hsame
    obtain ⟨is, his⟩ : ∃ is : Bool, is = (getAt (t.lba + (k : Int)) bl).isSome := ⟨_, rfl⟩
    have hpl : decide (0 ≤ placeOf (t.lba + (k : Int)) es) = is := by
      rw [his, ← hsame]
      cases hgt : getAt (t.lba + (k : Int)) es with
      | none => rw [placeOf_none hgt]; rfl
      | some q => obtain ⟨x, hx, _⟩ := placeOf_some hgt; rw [hx]; simp
    obtain ⟨pl, hpe⟩ : ∃ pl, pl = placeOf (t.lba + (k : Int)) es := ⟨_, rfl⟩
    rw [← hpe] at hpl HMP
    clear hpe hsame
    have HIS := Lib.hid his; clear his
    go_wp2_with fail
    refine HMP.out.mono ?_
    rintro e w3 ⟨rfl, hb3⟩
    clear HMP
    have HB3 := Lib.hid (HB2.out.trans (hb3.mono HB2.out.size))
    have u0 := (hb3.cell (p := ⟨vb, 0, none⟩) (block_lt v0)).trans v0
    have u1 := (hb3.cell (p := ⟨vb, 1, none⟩) (block_lt v1)).trans v1
    have u2 := (hb3.cell (p := ⟨vb, 2, none⟩) (block_lt v2)).trans v2
    have u3 := (hb3.cell (p := ⟨vb, 3, none⟩) (block_lt v3)).trans v3
    have s6 := (hb3.cell (p := ⟨w.heap.size, 6, none⟩) (block_lt t6')).trans t6'
    have s2 := (hb3.cell (p := ⟨w.heap.size, 2, none⟩) (block_lt t2')).trans t2'
    have HR3 := Lib.hid (HR2.out.keeps (Keeps.of_below (F := fun _ => False) hb3) (fun _ _ h => h))
    clear hb3 v0 v1 v2 v3 t6' t2' HR2 HB2 HVB
    by_cases hfull : t.op = 3 ∧ getAt (t.lba + (k : Int)) bl = none ∧ v.quota ≤ (bl.length : Int)
    · have o3 : (t.op == 3) = true := by simp [hfull.1]
      have hi2 : is = false := by rw [HIS.out, hfull.2.1]; rfl
      subst hi2
      have hqq : decide (v.quota ≤ (m : Int)) = true := by rw [HMB.out]; simpa using hfull.2.2
      have HFU := Lib.hid hfull; clear hfull
      go_wp2
      go_ret2
      exact HPOST.out _ _ _ _ _ _ _ _ rfl (HBK.out.inv.full HAT.out HFU.out.1 hlt HFU.out.2) HBK.out _ HB3.out
    go_upto_region 7 with fail
    go_cut [51] from 18 to 88 (fun b wx => b = .bool false ∧ w3 = wx)
    case first =>
      by_cases o3 : t.op = 3
      rotate_left
      · have e3 : (t.op == 3) = false := by simp [o3]
        have HFU := Lib.hid hfull; clear hfull o3
        go_wp2_with fail
        go_meet
        exact ⟨rfl, rfl⟩
      have e3 : (t.op == 3) = true := by simp [o3]
      cases is with
      | true =>
        have HFU := Lib.hid hfull; clear hfull o3
        go_wp2_with fail
        go_meet
        exact ⟨rfl, rfl⟩
      | false =>
        have hn : getAt (t.lba + (k : Int)) bl = none := by
          have := HIS.out
          cases hgt : getAt (t.lba + (k : Int)) bl with
          | none => rfl
          | some q => rw [hgt] at this; cases this
        have hqq : decide (v.quota ≤ (m : Int)) = false := decide_eq_false (fun hc => hfull ⟨o3, hn, by rw [← HMB.out]; exact hc⟩)
        have HFU := Lib.hid hfull; clear hfull o3 hn
        go_wp2_with fail
        go_meet
        exact ⟨rfl, rfl⟩
    obtain ⟨rfl, rfl⟩ := hcut
    have HFU := Lib.hid hfull; clear hfull HIS
    have HWO := Lib.hid (rwithout_any _ v (.slice ba m bc) es (t.lba + (k : Int)) w3 HR3.out (by omega))
    go_wp2_with fail
    refine HWO.out.mono ?_
    rintro e w4 ⟨al, nl, cl, rfl, hrow4, hnl, hb4⟩
    clear HWO
    have r6 := (hb4.cell (p := ⟨w.heap.size, 6, none⟩) (block_lt s6)).trans s6
    have r2 := (hb4.cell (p := ⟨w.heap.size, 2, none⟩) (block_lt s2)).trans s2
    have HB4 := Lib.hid (HB3.out.trans (hb4.mono HB3.out.size))
    have hrow4' : w4.ownsRow wr.heap.size 87 2 (.slice al nl cl) nl (bcells (wo (t.lba + (k : Int)) es.vals)) := World.ownsRow.mono hrow4 HB3.out.size
    have HR4 := Lib.hid hrow4'; clear hrow4 hrow4' hb4
    have HNL := Lib.hid hnl; clear hnl
    clear u0 u1 u2 u3 s6 s2 HR3
    have href4 := HBK.out.ref.below HB4.out
    have b0 := href4.head.cell 0
    simp only [List.getElem?_toArray, List.getElem?_cons_zero] at b0
    obtain ⟨cur, hcur⟩ := rowBlockT href4.row (g := g) rfl
    have z3 := href4.cell HBK.out.pl 3 (by omega)
    simp only [vcell4, List.getElem?_cons_zero, List.getElem?_cons_succ] at z3
    have zf := CellsAt.free (show CellsAt w4 g cur 69 from hcur) (i * 4 + 3)
    clear hcur href4
    by_cases o3 : t.op = 3
    rotate_left
    · have e3 : (t.op == 3) = false := by simp [o3]
      have o5 : t.op = 5 := H35.out.resolve_left o3
      have HO5 := Lib.hid o5; clear o5 o3
      obtain ⟨w5, hw5⟩ : ∃ w5, w5 = w4.setCell ⟨g, i * 4 + 3, none⟩ (.slice al nl cl) := ⟨_, rfl⟩
      have hN := HBK.out.next (bv' := .slice al nl cl) (es' := wo (t.lba + (k : Int)) es) HB4.out (by rw [wo_vals]; have := HR4.out; rw [HNL.out] at this ⊢; rw [← wo_vals] at this ⊢; simpa [REs.vals] using this) (HBK.out.wodat HR.out HB4.out _) (by rw [wo_data]; exact HSB.out.drop HBK.out.inv.ok.keys _) (HBK.out.inv.drop HO5.out)
      rw [← hw5] at hN
      have hk5 : Keeps (fun x => x = g) w4 w5 := by rw [hw5]; exact (Keeps.refl (fun x => x = g) w4).setCell (p := ⟨g, i * 4 + 3, none⟩) (fun _ => rfl) _
      have HN := Lib.hid hN; clear hN
      go_upto_region 4 with fail
      rw [← hw5]
      clear hw5
      have hct5 := HCT.out.keeps ((Keeps.of_below (F := fun x => x = g) HB4.out).trans hk5 (fun _ _ h => h)) hgt
      have HC5 := Lib.hid hct5; clear hct5 hk5
      go_wp2
      go_roundw
      case rel => exact ⟨k + 1, by omega, by simp, _, _, _, HN.out, HC5.out⟩
      case measure => simp only [intOf]; omega
    have e3 : (t.op == 3) = true := by simp [o3]
    have hdl2 := HDL.out o3
    have hn0c := HN0.out
    have hdk : k * 64 + 64 ≤ dn := by omega
    have HO3 := Lib.hid o3; clear o3
    obtain ⟨gd, od, rfl, hdb⟩ : ∃ gd od, da = some ⟨gd, od, none⟩ ∧ BytesAt w4 (.slice (some ⟨gd, od + k * 64, none⟩) 64 (dc - k * 64)) (piece t.data k) := by
      rcases HD.out with ⟨e0, _⟩ | ⟨gd, od, cp, e, hcl⟩
      · have := HDN.out; rw [e0] at this; simp at this; omega
      · rw [← HDN.out] at e hcl
        injection e with e1 e2 e3
        refine ⟨gd, od, e1, ?_⟩
        have hd1 : BytesAt w (.slice (some ⟨gd, od, none⟩) dn dc) t.data := .inr ⟨gd, od, dc, by rw [← HDN.out], by rw [← HDN.out]; exact hcl⟩
        have hp := hd1.part (k * 64) (k * 64 + 64) (dc - k * 64) (by omega) (by omega)
        rw [show k * 64 + 64 - k * 64 = 64 by omega, List.drop_take, show k * 64 + 64 - k * 64 = 64 by omega] at hp
        have hk4 : Keeps (fun x => x = g) w w4 := HBK.out.kp.trans (Keeps.of_below (F := fun x => x = g) HB4.out) (fun _ _ h => h)
        refine BytesAt.keeps hp hk4 (fun a nn cc ee _ => ?_)
        injection ee with ee _ _
        injection ee with ee
        rw [← ee]
        exact HDW.out ⟨gd, od, none⟩ e1 (by omega)
    have r10 := (HCT.out.keeps (Keeps.of_below (F := fun _ => False) HB4.out) id).cell 10
    simp only [Tk.cells, List.getElem?_toArray, List.getElem?_cons_zero, List.getElem?_cons_succ] at r10
    have HDB := Lib.hid hdb; clear hdb
    have hk1 : (0 : Int) ≤ 64 * (k : Int) := by omega
    have hk2 : 64 * (k : Int) ≤ 64 * (k : Int) + 64 := by omega
    have hk3 : 64 * (k : Int) + 64 ≤ (dc : Int) := by omega
    have hkw1 : IntKind.i64.wrap (64 * (k : Int)) = 64 * (k : Int) := IntWalk.i64_in _ (by omega)
    have hkw2 : IntKind.i64.wrap (64 * (k : Int) + 64) = 64 * (k : Int) + 64 := IntWalk.i64_in _ (by omega)
    have hkz1 : (64 * (k : Int)).toNat = k * 64 := by omega
    have hkz2 : (64 * (k : Int) + 64).toNat = k * 64 + 64 := by omega
    have hdk2 : k * 64 + 64 ≤ dc := by omega
    have hdne : ¬ dc = k * 64 := by omega
    have hpl64 : (piece t.data k).length = 64 := piece_length (cnt := t.cnt.toNat) (by rw [← HDN.out]; omega) (by omega)
    have HPL := Lib.hid hpl64; clear hpl64
    go_upto_region 13 with (at_builtin; refine wpList_append_bytes rfl (.tmp 62) (.tmp 70) rfl w4.heap.size (.slice none 0 0) [] rfl (Owns.nil _ _) (.slice (some ⟨gd, od + k * 64, none⟩) 64 (dc - k * 64)) (piece t.data k) rfl HDB.out (by rw [HPL.out]; decide) (Nat.le_refl _) ?_; intro v5 w5 hown5 hgrow5; rw [List.nil_append] at hown5; obtain ⟨ao, co, rfl, _⟩ := hown5.bytes.form; rw [HPL.out] at hown5 ⊢)
    have hb5 : Below w4.heap.size w4 w5 := (Below.refl _ _).grown hgrow5 (Nat.le_refl _) (fun x hx => by simp [Value.ownBlock] at hx)
    have hz45 : w4.heap.size ≤ w5.heap.size := hb5.size
    have HB5 := Lib.hid (HB4.out.trans (hb5.mono HB4.out.size))
    have HO5 := Lib.hid hown5; clear hown5 hgrow5
    have HR5 := Lib.hid (show w5.ownsRow wr.heap.size 87 2 (.slice al nl cl) nl (bcells (wo (t.lba + (k : Int)) es.vals)) from (Keeps.of_below (F := fun _ => False) hb5).owns HR4.out (fun _ _ h => h))
    have p6 := (hb5.cell (p := ⟨w.heap.size, 6, none⟩) (block_lt r6)).trans r6
    clear r6 r2 r10 b0 z3 zf hkw1 hkw2 hkz1 hkz2 hk1 hk2 hk3 hdk2 hdne HDB hb5
    obtain ⟨i0, hi0', hz0, hz1, hz2⟩ := info_parts Try.info_rblk
    have HI := Lib.hid hi0'; clear hi0'
    have HZ0 := Lib.hid hz0; clear hz0
    have HZ1 := Lib.hid hz1; clear hz1
    have HZ2 := Lib.hid hz2; clear hz2
    have hnl8 : nl ≤ 1048576 := by
      have h1 := wo_length (t.lba + (k : Int)) es.vals
      have h2 : (wo (t.lba + (k : Int)) es.vals).length ≤ es.vals.length := List.length_filter_le _ _
      have h3 : es.vals.length = es.length := by simp [REs.vals]
      have := HNL.out
      omega
    go_upto_region 14 with (at_builtin; refine wpList_append_own _ rfl (.tmp 72) (.tmp 79) 67 rfl wr.heap.size 87 i0 _ 2 32 Try.underlying67 HI.out HZ0.out HZ1.out HZ2.out rfl (by decide) (.slice al nl cl) nl (bcells (wo (t.lba + (k : Int)) es.vals)) rfl (World.ownsRow.alloc HR5.out _) ⟨w5.heap.size, 0, none⟩ 1 1 (#[.int .i64 (t.lba + (k : Int)), .slice ao 64 co] : Array Value).toList rfl rfl (World.news_of_block (cs := #[.int .i64 (t.lba + (k : Int)), .slice ao 64 co]) (t := 87) (fr := (0, 0)) (World.alloc_heap_new w5 _)) (by simp [Value.oneCell']) (by unfold maxLen; omega) (by omega) (by have := HB5.out.size; simp; omega) ?_; intro v6 w6 hown6 hgrow6 _; obtain ⟨a6, c6, rfl, _⟩ := ownsForm hown6)
    have hb6 : Below wr.heap.size w5 w6 := ((Below.refl _ w5).alloc HB5.out.size _).grown hgrow6 (by have := HB5.out.size; simp; omega) (fun x hx => (World.ownsRow.lt HR5.out x hx).1)
    have HB6 := Lib.hid (HB5.out.trans hb6)
    have hown' : Owns w4.heap.size w6 (.slice ao 64 co) (piece t.data k) := by
      have hk6 : Keeps (fun x => (Value.slice al nl cl).ownBlock = some x) w5 w6 := ((Keeps.refl (fun x => (Value.slice al nl cl).ownBlock = some x) w5).alloc _).trans (Keeps.of_grown hgrow6 (fun _ h => h)) (fun _ _ h => h)
      refine hk6.owns HO5.out (fun x hx hx2 => ?_)
      obtain ⟨c1, h1⟩ := rowBlockT HO5.out hx
      obtain ⟨c2, h2⟩ := rowBlockT HR5.out hx2
      rw [h1] at h2
      simp at h2
    have HO6 := Lib.hid hown'; clear hown' hgrow6 HO5
    have href6 := HBK.out.ref.below HB6.out
    have b0 := href6.head.cell 0
    simp only [List.getElem?_toArray, List.getElem?_cons_zero] at b0
    obtain ⟨cur, hcur⟩ := rowBlockT href6.row (g := g) rfl
    have z3 := href6.cell HBK.out.pl 3 (by omega)
    simp only [vcell4, List.getElem?_cons_zero, List.getElem?_cons_succ] at z3
    have zf := CellsAt.free (show CellsAt w6 g cur 69 from hcur) (i * 4 + 3)
    clear hcur href6
    obtain ⟨w7, hw7⟩ : ∃ w7, w7 = w6.setCell ⟨g, i * 4 + 3, none⟩ (.slice a6 (nl + 1) c6) := ⟨_, rfl⟩
    have hes : REs.vals (wo (t.lba + (k : Int)) es ++ [(t.lba + (k : Int), (Value.slice ao 64 co, piece t.data k))] : REs) = wo (t.lba + (k : Int)) es.vals ++ [(t.lba + (k : Int), Value.slice ao 64 co)] := by
      rw [← wo_vals]; simp [REs.vals]
    have hed : REs.data (wo (t.lba + (k : Int)) es ++ [(t.lba + (k : Int), (Value.slice ao 64 co, piece t.data k))] : REs) = wo (t.lba + (k : Int)) es.data ++ [(t.lba + (k : Int), piece t.data k)] := by
      rw [← wo_data]; simp [REs.data]
    have hel' : (wo (t.lba + (k : Int)) es ++ [(t.lba + (k : Int), (Value.slice ao 64 co, piece t.data k))] : REs).length = nl + 1 := by
      rw [List.length_append, HNL.out, ← wo_vals]; simp [REs.vals]
    have hN := HBK.out.next (bv' := .slice a6 (nl + 1) c6) (es' := (wo (t.lba + (k : Int)) es ++ [(t.lba + (k : Int), (Value.slice ao 64 co, piece t.data k))] : REs)) HB6.out (by rw [hes, hel', bcells_append]; exact hown6) (fun e he => by
      rcases List.mem_append.1 he with he | he
      · exact HBK.out.wodat HR.out HB6.out _ e he
      · rw [List.mem_singleton] at he
        subst he
        exact ⟨HO6.out.mono (Nat.zero_le _), HPL.out, fun x hx => .inr ⟨by have h1 := (Owns.from HO6.out x hx).1; have h2 := HB4.out.size; have h3 := HBK.out.kp.size; omega, (Owns.from HO6.out x hx).2⟩⟩) (by rw [hed]; exact HSB.out.put _ _) (HBK.out.inv.put HO3.out HPL.out (fun hc => HFU.out ⟨HO3.out, hc.1, hc.2⟩))
    rw [← hw7] at hN
    have hk7 : Keeps (fun x => x = g) w6 w7 := by rw [hw7]; exact (Keeps.refl (fun x => x = g) w6).setCell (p := ⟨g, i * 4 + 3, none⟩) (fun _ => rfl) _
    have hct7 := HCT.out.keeps ((Keeps.of_below (F := fun x => x = g) HB6.out).trans hk7 (fun _ _ h => h)) hgt
    have HC7 := Lib.hid hct7; clear hct7 hk7
    have HN := Lib.hid hN; clear hN hes hed hel' hown6
    go_upto_region 4 with fail
    rw [← hw7]
    clear hw7
    go_wp2
    go_roundw
    case rel => exact ⟨k + 1, by omega, by simp, _, _, _, HN.out, HC7.out⟩
    case measure => simp only [intOf]; omega
end Go.Proofs.Ytmanldcohbegkaa
