/-
  Tasks: how one lies in memory; bytes.Clone, own.
-/
import Derived.Test.YtknjiphgpoifcaaMem
import Derived.Deep.MidRow
namespace Go.Proofs.Ytknjiphgpoifcaa
open Go.RowKit

/-- A task as the program has it, its bytes as a list. -/
structure Tk where
  cmd : Int
  tag : Int
  op : Int
  ord : Bool
  fua : Bool
  vol : Int
  lba : Int
  cnt : Int
  siz : Int
  quo : Int
  data : List Nat
/-- Its cells; dv: where its bytes lie. -/
def Tk.cells (t : Tk) (dv : Value) : Array Value := #[.int .i64 t.cmd, .int .i64 t.tag, .int .i64 t.op, .bool t.ord, .bool t.fua, .int .i64 t.vol, .int .i64 t.lba, .int .i64 t.cnt, .int .i64 t.siz, .int .i64 t.quo, dv]

set_option maxRecDepth 100000 in
set_option maxHeartbeats 1600000 in
theorem clone_any (v : Value) (l : List Nat) (w : World) (hd : BytesAt w v l) (hl : l.length ≤ 140737488355328) :
    Calls Try.prog 24 #[v] w fun e w' => ∃ v', e = .returned v' ∧ Owns w.heap.size w' v' l ∧ Below w.heap.size w w' := by
  obtain ⟨ao, cap, rfl, h0⟩ := hd.form
  have HD := Lib.hid hd; clear hd
  have hn := fun (w : World) (a : Option Addr) (n c : Nat) => Lib.run_eql_slice_nil (P := Try.prog) w 30 5 a n c 0 0 Try.underlying30
  cases ao with
  | none =>
    obtain ⟨hl0, rfl⟩ := h0 rfl
    obtain rfl := List.eq_nil_of_length_eq_zero hl0
    go_enter Try.func24, Try.ntmps24
    go_wp2
    go_ret
    exact ⟨_, rfl, Owns.nil _ _, Below.refl _ _⟩
  | some a =>
    go_enter Try.func24, Try.ntmps24
    go_wp2_with (at_builtin; refine wpList_append_bytes rfl (.tmp 5) (.tmp 6) rfl w.heap.size (.slice (some ⟨w.heap.size, 0, none⟩) 0 0) [] rfl (World.ownsRow_made w #[] 0 (Nat.le_refl _) (Nat.zero_le _) rfl) _ l rfl (HD.out.later ((Below.refl _ _).alloc (Nat.le_refl _) _)) (by simp; omega) (by simp) ?_; intro v' w' hown hgrow; rw [List.nil_append] at hown; have HO := Lib.hid hown; clear hown; have HG := Lib.hid hgrow; clear hgrow)
    go_ret
    refine ⟨_, rfl, HO.out, ((Below.refl _ _).alloc (Nat.le_refl _) _).grown HG.out (by simp) (fun k hk => ?_)⟩
    simp [Value.ownBlock] at hk
    omega

def taskZero : Array Value := #[.int .i64 0, .int .i64 0, .int .i64 0, .bool false, .bool false, .int .i64 0, .int .i64 0, .int .i64 0, .int .i64 0, .int .i64 0, .slice none 0 0]

set_option maxRecDepth 100000 in
set_option maxHeartbeats 1600000 in
theorem own_any (t : Tk) (dv : Value) (w : World) (hd : BytesAt w dv t.data) (hl : t.data.length ≤ 140737488355328) :
    Calls Try.prog 26 #[.agg (t.cells dv)] w fun e w' => ∃ dv', e = .returned (.agg (t.cells dv')) ∧ Owns w.heap.size w' dv' t.data ∧ Below w.heap.size w w' := by
  have HD := Lib.hid hd; clear hd
  unfold Tk.cells
  go_enter Try.func26, Try.ntmps26
  go_wp2_with fail
  refine (clone_any dv t.data _ ((HD.out.later ((Below.refl _ _).alloc (Nat.le_refl _) _)).later ((Below.refl _ _).alloc (Nat.le_refl _) _)) hl).mono ?_
  rintro e w2 ⟨dv', rfl, hown, hbel⟩
  obtain ⟨da, dc, rfl, _⟩ := hown.bytes.form
  have HO := Lib.hid hown; clear hown
  have c0 : ∀ j, w2.cell? ⟨w.heap.size, j, none⟩ = (t.cells dv)[j]? := fun j => (hbel.cell (p := ⟨w.heap.size, j, none⟩) (by simp; omega)).trans (by simp [Tk.cells])
  have c1 : ∀ j, w2.cell? ⟨w.heap.size + 1, j, none⟩ = taskZero[j]? := fun j => (hbel.cell (p := ⟨w.heap.size + 1, j, none⟩) (by simp)).trans (by simp [taskZero])
  have f0 : ∀ j, w2.frozen? ⟨w.heap.size, j, none⟩ = false := fun j => (hbel.frozen (p := ⟨w.heap.size, j, none⟩) (by simp; omega)).trans (by simp)
  have f1 : ∀ j, w2.frozen? ⟨w.heap.size + 1, j, none⟩ = false := fun j => (hbel.frozen (p := ⟨w.heap.size + 1, j, none⟩) (by simp)).trans (by simp)
  have hsz := hbel.size
  simp only [World.size_alloc] at hsz
  have HB := Lib.hid hbel; clear hbel
  unfold Tk.cells at c0
  unfold taskZero at c1
  go_wp2
  refine bodyPost_ret (v := .agg #[.int .i64 t.cmd, .int .i64 t.tag, .int .i64 t.op, .bool t.ord, .bool t.fua, .int .i64 t.vol, .int .i64 t.lba, .int .i64 t.cnt, .int .i64 t.siz, .int .i64 t.quo, .slice da t.data.length dc]) (by simp [results, Try.results26, go_sem, c1]) rfl ⟨_, rfl, ?_, ?_⟩
  · refine Owns.mono (base := w.heap.size + 1 + 1) ?_ (by omega)
    have := HO.out
    simp only [World.size_alloc] at this
    unfold Owns at this ⊢
    repeat (refine ownsRow_setCell_below ?_ (by simp <;> omega) _)
    exact this
  · repeat (refine Below.setCell ?_ (by simp) _)
    exact ((((Below.refl _ _).alloc (Nat.le_refl _) _).alloc (by simp) _)).trans (HB.out.mono (by simp; omega))
end Go.Proofs.Ytknjiphgpoifcaa
