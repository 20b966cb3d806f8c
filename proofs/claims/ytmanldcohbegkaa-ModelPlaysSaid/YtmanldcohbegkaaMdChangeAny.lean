/-
  The model: what no refusal says; change, joined.
-/
import Derived.Test.YtmanldcohbegkaaMdRefuse
import Derived.Test.YtmanldcohbegkaaMdGood
namespace Go.Proofs.Ytmanldcohbegkaa
open Go.RowKit

theorem change_any [Zs] (m : Nat) (rv : Value) (ps : List (Nat × Nat)) (S : Mo) (t : Tk) (dv : Value) (lost : Bool) (w : World) (h : ModelIs w m rv ps S) (hg : Good S) (hr : refuseS S t lost = 0) (h3 : ¬ (t.op = 3 ∨ t.op = 5)) :
    Calls Try.prog 25 #[.pointer (some ⟨m, 0, none⟩), .agg (t.cells dv)] w (ChPost w m rv ps (changeS S t)) := by
  have hlen : ps.length ≤ 8 := by rw [h.len]; exact hg.len
  have ho := refuse_op hr
  have hops : t.op = 1 ∨ t.op = 4 ∨ t.op = 2 ∨ t.op = 6 ∨ t.op = 7 ∨ t.op = 8 ∨ t.op = 9 ∨ t.op = 10 := by omega
  rcases hops with hop | hop | hop | hop | hop | hop | hop | hop
  · exact change_none m rv ps S t dv w h hlen 1 (.inl rfl) hop
  · exact change_none m rv ps S t dv w h hlen 4 (.inr rfl) hop
  · obtain ⟨i, v, hat, c1, c2, l1, l2, l3⟩ := refuse_blocks hr (.inr (.inl hop))
    obtain ⟨p, b, hp⟩ := atPtr h hat
    have hs := hg.size v (List.mem_of_getElem? (Mo.at_some hat).2)
    exact change_read m rv ps S t dv w h hlen hop i p b v hat hp t.cnt.toNat (by omega) (by omega) l1 (by omega)
  · obtain ⟨n7, nn⟩ := refuse_fresh hr (.inl hop)
    exact change_create m rv ps S t dv w h hlen hop (by rw [h.len]; exact n7) hg.next0 nn
  · obtain ⟨n7, nn⟩ := refuse_fresh hr (.inr hop)
    obtain ⟨i, v, hat⟩ := refuse_at hr (.inr (.inr (.inl hop)))
    obtain ⟨p, b, hp⟩ := atPtr h hat
    exact change_snap m rv ps S t dv w h hlen hop i p b v hat hp (by rw [h.len]; exact n7) hg.next0 nn
  · obtain ⟨i, v, hat⟩ := refuse_at hr (.inr (.inr (.inr hop)))
    obtain ⟨p, b, hp⟩ := atPtr h hat
    exact change_del m rv ps S t dv w h hlen hop i p b v hat hp
  · obtain ⟨i, v, hat⟩ := refuse_at hr (.inr (.inl hop))
    obtain ⟨p, b, hp⟩ := atPtr h hat
    exact change_resize m rv ps S t dv w h hlen hop i p b v hat hp
  · refine change_list m rv ps S t dv w h hlen hop (fun v hv => ?_)
    have h1 := hg.ids v hv
    have h2 := hg.size v hv
    have h3 := hg.next1
    omega
/-- blockwise, as one. -/
theorem block_any [Zs] (m : Nat) (rv : Value) (ps : List (Nat × Nat)) (S : Mo) (t : Tk) (da : Option Addr) (dc : Nat) (lost : Bool) (n : Nat) (w : World) (h : ModelIs w m rv ps S) (hg : Good S) (hr : refuseS S t lost = 0) (h3 : t.op = 3 ∨ t.op = 5) (hn : (n : Int) ≤ t.cnt) (hd : BytesAt w (.slice da t.data.length dc) t.data) (hdc : t.data.length ≤ dc) (hz : t.op = 3 → ∀ x, Zs.z x → x < w.heap.size) :
    Calls Try.prog 24 #[.pointer (some ⟨m, 0, none⟩), .agg (t.cells (.slice da t.data.length dc)), .int .i64 (n : Int)] w fun e w' => ∃ (k : Nat) (s : Int), (blockS S t n).1 = (k, s) ∧ e = .returned (.tuple #[.int .i64 (k : Int), .int .i64 s]) ∧ ModelIs w' m rv ps (blockS S t n).2 ∧ Keeps (Own m rv ps) w w' := by
  have hlen : ps.length ≤ 8 := by rw [h.len]; exact hg.len
  obtain ⟨i, v, hat, c1, c2, l1, l2, l3⟩ := refuse_blocks hr (h3.elim (fun e => .inl e) (fun e => .inr (.inr e)))
  obtain ⟨p, b, hp⟩ := atPtr h hat
  have hs := hg.size v (List.mem_of_getElem? (Mo.at_some hat).2)
  have hown : ∀ x, x = b → Own m rv ps x := fun x e => .inr (.inr ⟨(p, b), List.mem_of_getElem? hp, .inr e⟩)
  rcases h3 with hop | hop
  · have hdl := refuse_data hr hop
    refine (block_write m rv ps S t (.slice da t.data.length dc) i p b v n w h hlen (Mo.at_some hat).1 hp (Mo.at_some hat).2 (by omega) l1 (by omega) hop hd (by omega) (by omega) (by omega) (fun a L c e => by injection e with _ e2 e3; omega) (hz hop)).mono ?_
    rintro e w' ⟨bl, k, s, hw, rfl, hv, hk⟩
    have e1 : blockS S t n = ((k, s), S.setVol i { v with bl := bl }) := by unfold blockS; rw [hat]; simp [hop, hw]
    rw [e1]
    exact ⟨k, s, rfl, rfl, h.setVol hp hv hk (fun x e => .inr e), hk.mono (fun x _ e => hown x e)⟩
  · refine (block_unmap m rv ps S t (.slice da t.data.length dc) i p b v n w h hlen (Mo.at_some hat).1 hp (Mo.at_some hat).2 (by omega) l1 (by omega) hop).mono ?_
    rintro e w' ⟨rfl, hv, hk⟩
    have e1 : blockS S t n = ((n, 0), S.setVol i { v with bl := unS t.lba v.bl n }) := by unfold blockS; rw [hat]; simp [hop]
    rw [e1]
    exact ⟨n, 0, rfl, rfl, h.setVol hp hv hk (fun x e => .inr e), hk.mono (fun x _ e => hown x e)⟩
end Go.Proofs.Ytmanldcohbegkaa
