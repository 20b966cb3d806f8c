/-
  The model: write.
-/
import Derived.Test.YtmanldcohbegkaaMdWrMath
namespace Go.Proofs.Ytmanldcohbegkaa
open Go.RowKit Go.Shelf

attribute [local go_sem] Oper.semAt_some

/-- What write's rounds keep. -/
structure WrAt [Zs] (w : World) (s0 p b : Nat) (v : Vo) (a : Int) (k : Nat) (r1 r2 : Int) (dv : Value) (bl : List (Int × List Nat)) (W : World) : Prop where
  x0 : W.heap[s0]? = some (.cells #[.pointer (some ⟨p, 0, none⟩)] 63 (0, 0))
  x1 : W.heap[s0 + 1]? = some (.cells #[.int .i64 (a + k)] 3 (0, 0))
  x2 : W.heap[s0 + 1 + 1]? = some (.cells #[.int .i64 r1] 3 (0, 0))
  x3 : W.heap[s0 + 1 + 1 + 1]? = some (.cells #[.int .i64 r2] 31 (0, 0))
  x4 : W.heap[s0 + 1 + 1 + 1 + 1]? = some (.cells #[.int .i64 k] 3 (0, 0))
  x5 : W.heap[s0 + 1 + 1 + 1 + 1 + 1]? = some (.cells #[dv] 28 (0, 0))
  x6 : W.heap[s0 + 1 + 1 + 1 + 1 + 1 + 1]? = some (.cells #[.int .i64 64] 3 (0, 0))
  vol : VolAt W p b { v with bl := bl }
  kp : Keeps (fun x => x = b) w W
theorem WrAt.own [Zs] {w : World} {s0 p b : Nat} {v : Vo} {a : Int} {k : Nat} {r1 r2 : Int} {dv : Value} {bl : List (Int × List Nat)} {W W' : World} {B : Nat} {row : Option Nat} (h : WrAt w s0 p b v a k r1 r2 dv bl W) (hs : s0 = w.heap.size) (hB : w.heap.size + 7 ≤ B) (hp : p < w.heap.size) (hb : b < w.heap.size)
    (hg : W.grownBy W' row) (hr : ∀ r, row = some r → B ≤ r ∧ ∃ o, W.heap[r]? = some o ∧ o.isCells = false) : WrAt w s0 p b v a k r1 r2 dv bl W' := by
  have hk : Keeps (fun r => B ≤ r ∧ ∃ o, W.heap[r]? = some o ∧ o.isCells = false) W W' := Keeps.of_grown hg hr
  have hx : ∀ {j : Nat} {o : Obj}, j < B → W.heap[j]? = some o → W'.heap[j]? = some o := fun hj ho => (hk.block _ (Array.getElem?_eq_some_iff.1 ho).1 (by omega)).trans ho
  exact ⟨hx (by omega) h.x0, hx (by omega) h.x1, hx (by omega) h.x2, hx (by omega) h.x3, hx (by omega) h.x4, hx (by omega) h.x5, hx (by omega) h.x6,
    h.vol.keeps hk (by omega) (by omega) (fun g cur hc ⟨_, o, ho, hn⟩ => by rw [hc] at ho; cases ho; cases hn), h.kp.trans hk (fun x hx ⟨h1, _⟩ => by omega)⟩

theorem run_maplen {w : World} {b : Nat} {l : List (Int × Value)} (h : MapIs w b l) (ty : TypeId) : (Builtin.len_ #[64] ty #[.map (some b)]).run Try.prog w = .ok (goInt l.length) w := by
  obtain ⟨es, clock, hb, he, _⟩ := h
  have e : es.size = l.length := by have := congrArg List.length he; simpa using this
  rw [← e]
  exact run_len_map w 64 ty b es clock (by kernel_rfl) hb
theorem BytesAt.apart {w : World} {v : Value} {d : List Nat} {b : Nat} (h : BytesAt w v d) (hb : ∀ cur T f, w.heap[b]? ≠ some (.cells cur T f)) : LiesIn v (fun k => ¬ k = b) := by
  intro a n c e hn hk
  subst hk
  rcases h with ⟨rfl, ao, cap, e2, h0⟩ | ⟨bd, of', cap, e2, hc⟩
  · rw [e] at e2
    injection e2 with e3 e4 e5
    omega
  · rw [e] at e2
    injection e2 with e3 e4 e5
    injection e3 with e3
    subst e3 e4
    have := hc 0 hn
    unfold World.cell? at this
    split at this
    · exact hb _ _ _ (by assumption)
    · cases this
/-- What the rounds' reading finds. -/
structure WrS (s0 s1 p b : Nat) (k q : Int) (l : List (Int × Value)) (V : World) : Prop where
  q0 : V.cell? ⟨s0, 0, none⟩ = some (.pointer (some ⟨p, 0, none⟩))
  q1 : V.cell? ⟨s1, 0, none⟩ = some (.int .i64 k)
  q2 : V.cell? ⟨p, 2, none⟩ = some (.int .i64 q)
  q3 : V.cell? ⟨p, 3, none⟩ = some (.map (some b))
  q4 : MapIs V b l
structure WrT (s0 s1 p b : Nat) (k : Int) (V : World) : Prop where
  q0 : V.cell? ⟨s0, 0, none⟩ = some (.pointer (some ⟨p, 0, none⟩))
  q1 : V.cell? ⟨s1, 0, none⟩ = some (.int .i64 k)
  q3 : V.cell? ⟨p, 3, none⟩ = some (.map (some b))

theorem WrS.drew {s0 s1 p b : Nat} {k q : Int} {l : List (Int × Value)} {V : World} (h : WrS s0 s1 p b k q l V) : WrS s0 s1 p b k q l V.drew := ⟨h.q0, h.q1, h.q2, h.q3, h.q4⟩
theorem WrT.drew {s0 s1 p b : Nat} {k : Int} {V : World} (h : WrT s0 s1 p b k V) : WrT s0 s1 p b k V.drew := ⟨h.q0, h.q1, h.q3⟩
theorem WrT.keeps {s0 s1 p b : Nat} {k : Int} {V V' : World} {F : Nat → Prop} (h : WrT s0 s1 p b k V) (hk : Keeps F V V') (h0 : ¬ F s0) (h1 : ¬ F s1) (h2 : ¬ F p) : WrT s0 s1 p b k V' :=
  ⟨(hk.cell (p := ⟨s0, 0, none⟩) (block_lt h.q0) h0).trans h.q0, (hk.cell (p := ⟨s1, 0, none⟩) (block_lt h.q1) h1).trans h.q1, (hk.cell (p := ⟨p, 3, none⟩) (block_lt h.q3) h2).trans h.q3⟩
theorem WrT.below {s0 s1 p b : Nat} {k : Int} {V V' : World} (h : WrT s0 s1 p b k V) (hk : Below V.heap.size V V') : WrT s0 s1 p b k V' := h.keeps (F := fun _ => False) (Keeps.of_below hk) (fun h => h) (fun h => h) (fun h => h)
theorem es_look [Zs] {w : World} {es : List (Int × (Value × List Nat))} (h3 : ∀ e ∈ es, DataAt w e.2.1 e.2.2) (k : Int) : (getAt k (es.map fun e => (e.1, e.2.2)) = none ∧ getAt k (es.map fun e => (e.1, e.2.1)) = none) ∨ ∃ v d, getAt k (es.map fun e => (e.1, e.2.2)) = some d ∧ getAt k (es.map fun e => (e.1, e.2.1)) = some v ∧ DataAt w v d := by
  have e1 := getAt_map (fun e : Value × List Nat => e.1) k es
  have e2 := getAt_map (fun e : Value × List Nat => e.2) k es
  rw [e1, e2]
  cases hg : getAt k es with
  | none => exact .inl ⟨rfl, rfl⟩
  | some q => exact .inr ⟨q.1, q.2, rfl, rfl, h3 _ (getAt_mem _ _ _ hg)⟩
theorem keepsFrom_of {F : Nat → Prop} {B : Nat} {W W' : World} (h : Keeps F W W') (hF : ∀ x, F x → x < B) : KeepsFrom B W W' := ⟨h.size, fun k o hB ho _ => (h.block k (Array.getElem?_eq_some_iff.1 ho).1 (fun hk => by have := hF k hk; omega)).trans ho⟩
/-- A round that goes on. -/
theorem wr_next [Zs] {w : World} {s p b : Nat} {v : Vo} {a : Int} {k : Nat} {r1 r2 : Int} {dv : Value} {bl : List (Int × List Nat)} {W w2 w3 : World} (h : WrAt w s p b v a k r1 r2 dv bl W) (hs : s = w.heap.size) (hp : p < w.heap.size) (hb : b < w.heap.size)
    {es : List (Int × (Value × List Nat))} (hbe : bl = es.map fun e => (e.1, e.2.2)) (hda : ∀ e ∈ es, DataAt W e.2.1 e.2.2) {v2 : Value} {d : List Nat} (hb2 : Below W.heap.size W w2) (hd2 : DataAt w2 v2 d) (hm2 : MapIs w2 b (es.map fun e => (e.1, e.2.1)))
    (hm3 : MapIs w3 b (putAt (a + (k : Int)) v2 (es.map fun e => (e.1, e.2.1)))) (hk3 : Keeps (fun x => x = b) w2 w3) (B : Nat) (hB : w.heap.size + 7 ≤ B) :
    KeepsFrom B W ((w3.setCell ⟨s + 1, 0, none⟩ (.int .i64 (a + (k : Int) + 1))).setCell ⟨s + 1 + 1 + 1 + 1, 0, none⟩ (.int .i64 ((k : Int) + 1))) ∧
    KpC (s + 1 + 1 + 1 + 1 + 1) (s + 1 + 1 + 1 + 1 + 1 + 1) W ((w3.setCell ⟨s + 1, 0, none⟩ (.int .i64 (a + (k : Int) + 1))).setCell ⟨s + 1 + 1 + 1 + 1, 0, none⟩ (.int .i64 ((k : Int) + 1))) ∧
    WrAt w s p b v a (k + 1) r1 r2 dv (putAt (a + (k : Int)) d bl) ((w3.setCell ⟨s + 1, 0, none⟩ (.int .i64 (a + (k : Int) + 1))).setCell ⟨s + 1 + 1 + 1 + 1, 0, none⟩ (.int .i64 ((k : Int) + 1))) := by
  have hW7 : s + 1 + 1 + 1 + 1 + 1 + 1 < W.heap.size := (Array.getElem?_eq_some_iff.1 h.x6).1
  have hpb : p ≠ b := by rintro rfl; exact h.vol.map.notCells _ _ _ h.vol.str
  have hk : Keeps (fun x => x = b) W w3 := (Keeps.of_below hb2).trans hk3 (fun _ _ h => h)
  have hkf : Keeps (fun x => x = b ∨ x = s + 1 ∨ x = s + 1 + 1 + 1 + 1) W ((w3.setCell ⟨s + 1, 0, none⟩ (.int .i64 (a + (k : Int) + 1))).setCell ⟨s + 1 + 1 + 1 + 1, 0, none⟩ (.int .i64 ((k : Int) + 1))) :=
    ((hk.mono (fun _ _ h => .inl h)).setCell (fun _ => .inr (.inl rfl)) _).setCell (fun _ => .inr (.inr rfl)) _
  have hx : ∀ {j : Nat} {o : Obj}, j ≠ b → W.heap[j]? = some o → w3.heap[j]? = some o := fun hj ho => (hk.block _ (Array.getElem?_eq_some_iff.1 ho).1 hj).trans ho
  have hy : ∀ {j : Nat} {o : Obj}, j ≠ b → j ≠ s + 1 → j ≠ s + 1 + 1 + 1 + 1 → W.heap[j]? = some o → ((w3.setCell ⟨s + 1, 0, none⟩ (.int .i64 (a + (k : Int) + 1))).setCell ⟨s + 1 + 1 + 1 + 1, 0, none⟩ (.int .i64 ((k : Int) + 1))).heap[j]? = some o := fun hj h1 h2 ho => (hkf.block _ (Array.getElem?_eq_some_iff.1 ho).1 (fun h => h.elim hj (fun h => h.elim h1 h2))).trans ho
  have c1 : CellsAt w3 (s + 1) #[.int .i64 (a + k)] 3 := hx (by omega) h.x1
  have c4 : CellsAt w3 (s + 1 + 1 + 1 + 1) #[.int .i64 k] 3 := hx (by omega) h.x4
  have hset : Keeps (fun x => x = s + 1 ∨ x = s + 1 + 1 + 1 + 1) w3 ((w3.setCell ⟨s + 1, 0, none⟩ (.int .i64 (a + (k : Int) + 1))).setCell ⟨s + 1 + 1 + 1 + 1, 0, none⟩ (.int .i64 ((k : Int) + 1))) := ((Keeps.refl _ w3).setCell (fun _ => .inl rfl) _).setCell (fun _ => .inr rfl) _
  have h35 : ∀ g cur, w3.heap[g]? = some (.cells cur 5 (0, 0)) → ¬ (g = s + 1 ∨ g = s + 1 + 1 + 1 + 1) := by
    rintro g cur hc (rfl | rfl)
    · unfold CellsAt at c1; rw [c1] at hc; simp at hc
    · unfold CellsAt at c4; rw [c4] at hc; simp at hc
  have h25 : ∀ g cur, w2.heap[g]? = some (.cells cur 5 (0, 0)) → ¬ g = b := by
    rintro g cur hc rfl
    exact hm2.notCells _ _ _ hc
  have hdt : ∀ {u : Value} {d' : List Nat}, DataAt w2 u d' → DataAt ((w3.setCell ⟨s + 1, 0, none⟩ (.int .i64 (a + (k : Int) + 1))).setCell ⟨s + 1 + 1 + 1 + 1, 0, none⟩ (.int .i64 ((k : Int) + 1))) u d' := fun hd => (hd.keeps hk3 h25).keeps hset h35
  refine ⟨keepsFrom_of hkf (by rintro x (rfl | rfl | rfl) <;> omega), ⟨hkf.size, hkf.block _ (by omega) (by omega), hkf.block _ (by omega) (by omega)⟩, ?_⟩
  refine ⟨hy (by omega) (by omega) (by omega) h.x0, ?_, hy (by omega) (by omega) (by omega) h.x2, hy (by omega) (by omega) (by omega) h.x3, ?_, hy (by omega) (by omega) (by omega) h.x5, hy (by omega) (by omega) (by omega) h.x6, ⟨?_, ?_⟩, ?_⟩
  · have := (c1.set 0 (.int .i64 (a + (k : Int) + 1))).other (a := ⟨s + 1 + 1 + 1 + 1, 0, none⟩) (by dsimp only; omega) (.int .i64 ((k : Int) + 1))
    rw [show a + ((k + 1 : Nat) : Int) = a + (k : Int) + 1 by omega]
    exact this
  · have := (c4.other (a := ⟨s + 1, 0, none⟩) (by dsimp only; omega) (.int .i64 (a + (k : Int) + 1))).set 0 (.int .i64 ((k : Int) + 1))
    rw [show ((k + 1 : Nat) : Int) = (k : Int) + 1 by omega]
    exact this
  · exact h.vol.str.keeps hkf (by omega)
  · have hml : MapIs ((w3.setCell ⟨s + 1, 0, none⟩ (.int .i64 (a + (k : Int) + 1))).setCell ⟨s + 1 + 1 + 1 + 1, 0, none⟩ (.int .i64 ((k : Int) + 1))) b _ := hm3.keeps hset (by omega)
    refine ⟨putAt (a + (k : Int)) (v2, d) es, ?_, ?_, ?_⟩
    · rw [← putAt_map (fun e : Value × List Nat => e.1)]; exact hml
    · dsimp only
      rw [hbe]; exact putAt_map (fun e : Value × List Nat => e.2) _ (v2, d) _
    · intro e he
      rcases mem_putAt _ _ _ _ he with rfl | he
      · exact hdt hd2
      · exact hdt ((hda e he).keeps (Keeps.of_below (F := fun _ => False) hb2) (fun _ _ _ h => h))
  · exact h.kp.trans hkf (fun x hx => by rintro (h | h | h) <;> omega)
/-- A round that is refused; the end. -/
theorem wr_last [Zs] {w : World} {s p b : Nat} {v : Vo} {a : Int} {k : Nat} {r1 r2 : Int} {dv : Value} {bl : List (Int × List Nat)} {W W2 : World} (h : WrAt w s p b v a k r1 r2 dv bl W) (h2 : Keeps (fun _ => False) W W2) (hs : s = w.heap.size) (hp : p < w.heap.size) (hb : b < w.heap.size) (y1 y2 : Int) (B : Nat) (hB : w.heap.size + 7 ≤ B) :
    KeepsFrom B W ((W2.setCell ⟨s + 1 + 1, 0, none⟩ (.int .i64 y1)).setCell ⟨s + 1 + 1 + 1, 0, none⟩ (.int .i64 y2)) ∧
    WrAt w s p b v a k y1 y2 dv bl ((W2.setCell ⟨s + 1 + 1, 0, none⟩ (.int .i64 y1)).setCell ⟨s + 1 + 1 + 1, 0, none⟩ (.int .i64 y2)) := by
  have hkf : Keeps (fun x => x = s + 1 + 1 ∨ x = s + 1 + 1 + 1) W ((W2.setCell ⟨s + 1 + 1, 0, none⟩ (.int .i64 y1)).setCell ⟨s + 1 + 1 + 1, 0, none⟩ (.int .i64 y2)) :=
    ((h2.mono (fun _ _ h => h.elim)).setCell (fun _ => .inl rfl) _).setCell (fun _ => .inr rfl) _
  have hy : ∀ {j : Nat} {o : Obj}, j ≠ s + 1 + 1 → j ≠ s + 1 + 1 + 1 → W.heap[j]? = some o → ((W2.setCell ⟨s + 1 + 1, 0, none⟩ (.int .i64 y1)).setCell ⟨s + 1 + 1 + 1, 0, none⟩ (.int .i64 y2)).heap[j]? = some o := fun h1 h2 ho => (hkf.block _ (Array.getElem?_eq_some_iff.1 ho).1 (fun h => h.elim h1 h2)).trans ho
  have c2 : CellsAt W2 (s + 1 + 1) #[.int .i64 r1] 3 := (h2.block _ (Array.getElem?_eq_some_iff.1 h.x2).1 (fun h => h)).trans h.x2
  have c3 : CellsAt W2 (s + 1 + 1 + 1) #[.int .i64 r2] 31 := (h2.block _ (Array.getElem?_eq_some_iff.1 h.x3).1 (fun h => h)).trans h.x3
  refine ⟨keepsFrom_of hkf (by rintro x (rfl | rfl) <;> omega), hy (by omega) (by omega) h.x0, hy (by omega) (by omega) h.x1, ?_, ?_, hy (by omega) (by omega) h.x4, hy (by omega) (by omega) h.x5, hy (by omega) (by omega) h.x6, ?_, ?_⟩
  · exact (c2.set 0 (.int .i64 y1)).other (a := ⟨s + 1 + 1 + 1, 0, none⟩) (by dsimp only; omega) (.int .i64 y2)
  · exact (c3.other (a := ⟨s + 1 + 1, 0, none⟩) (by dsimp only; omega) (.int .i64 y1)).set 0 (.int .i64 y2)
  · refine h.vol.keeps hkf (by omega) (by omega) ?_
    rintro g cur hc (rfl | rfl)
    · have := h.x2; rw [this] at hc; simp at hc
    · have := h.x3; rw [this] at hc; simp at hc
  · exact h.kp.trans hkf (fun x hx => by rintro (h | h) <;> omega)
theorem KpC.trans {A B : Nat} {X Y Z : World} (h : KpC A B X Y) (k : KpC A B Y Z) : KpC A B X Z := ⟨Nat.le_trans h.1 k.1, k.2.1.trans h.2.1, k.2.2.trans h.2.2⟩
theorem wr_piece {w W : World} {g off cap n b : Nat} {data : List Nat} (hd : BytesAt w (.slice (some ⟨g, off, none⟩) n cap) data) (k : Nat) (hk : k * 64 + 64 ≤ n) (hkp : Keeps (fun x => x = b) w W) (hb : ∀ cur T f, w.heap[b]? ≠ some (.cells cur T f)) : BytesAt W (.slice (some ⟨g, off + k * 64, none⟩) 64 64) (piece data k) := by
  have h1 := hd.part (k * 64) (k * 64 + 64) 64 (by omega) hk
  rw [Nat.add_sub_cancel_left, List.drop_take, Nat.add_sub_cancel_left] at h1
  exact h1.keeps hkp (h1.apart hb)
theorem heap_at {w : World} {o : Obj} {n : Nat} (h : n = w.heap.size) : (w.alloc o).heap[n]? = some o := by rw [h]; exact World.alloc_heap_new w o
theorem wr_start [Zs] {w : World} {p b : Nat} {v : Vo} (h : VolAt w p b v) (a : Int) (dv : Value) : WrAt w w.heap.size p b v a 0 0 0 dv v.bl (((((((w.alloc (Obj.cells #[Value.pointer (some { block := p, off := 0 })] 63)).alloc (Obj.cells #[Value.int IntKind.i64 a] 3)).alloc (Obj.cells #[Value.int IntKind.i64 0] 3)).alloc (Obj.cells #[Value.int IntKind.i64 0] 31)).alloc (Obj.cells #[Value.int IntKind.i64 0] 3)).alloc (Obj.cells #[dv] 28)).alloc (Obj.cells #[Value.int IntKind.i64 64] 3)) := by
  have hpl := h.str.lt
  have hbl := h.map.lt
  have hk : Keeps (fun x => x = b) w (((((((w.alloc (Obj.cells #[Value.pointer (some { block := p, off := 0 })] 63)).alloc (Obj.cells #[Value.int IntKind.i64 a] 3)).alloc (Obj.cells #[Value.int IntKind.i64 0] 3)).alloc (Obj.cells #[Value.int IntKind.i64 0] 31)).alloc (Obj.cells #[Value.int IntKind.i64 0] 3)).alloc (Obj.cells #[dv] 28)).alloc (Obj.cells #[Value.int IntKind.i64 64] 3)) := (((((((Keeps.refl _ w).alloc _).alloc _).alloc _).alloc _).alloc _).alloc _).alloc _
  have hv := h.keeps (F := fun _ => False) ((((((((Keeps.refl _ w).alloc (Obj.cells #[Value.pointer (some { block := p, off := 0 })] 63)).alloc (Obj.cells #[Value.int IntKind.i64 a] 3)).alloc (Obj.cells #[Value.int IntKind.i64 0] 3)).alloc (Obj.cells #[Value.int IntKind.i64 0] 31)).alloc (Obj.cells #[Value.int IntKind.i64 0] 3)).alloc (Obj.cells #[dv] 28)).alloc (Obj.cells #[Value.int IntKind.i64 64] 3)) (fun h => h) (fun h => h) (fun _ _ _ h => h)
  refine ⟨?_, ?_, ?_, ?_, ?_, ?_, ?_, hv, hk⟩
  all_goals (try rw [show a + ((0 : Nat) : Int) = a by simp])
  all_goals (repeat (first | (refine heap_at ?hh; (case hh => simp only [World.size_alloc]; done)) | (refine (Below.heap_alloc _ _ _ ?hh).trans ?_; (case hh => simp only [World.size_alloc]; omega))))

set_option maxRecDepth 100000 in
set_option maxHeartbeats 6400000 in
theorem write_any [Zs] (p b : Nat) (v : Vo) (a : Int) (g off cap cnt : Nat) (data : List Nat) (w : World) (h : VolAt w p b v) (hd : BytesAt w (.slice (some ⟨g, off, none⟩) (cnt * 64) cap) data) (hcap : cnt * 64 ≤ cap) (hcnt : cnt ≤ 8) (h0 : 0 ≤ a) (h1 : a ≤ 1048576) (hz : ∀ x, Zs.z x → x < w.heap.size) :
    Calls Try.prog 34 #[.pointer (some ⟨p, 0, none⟩), .int .i64 a, .slice (some ⟨g, off, none⟩) (cnt * 64) cap] w fun e w' => ∃ bl n s, writeS v a data cnt = (bl, n, s) ∧ e = .returned (.tuple #[.int .i64 n, .int .i64 s]) ∧ VolAt w' p b { v with bl := bl } ∧ Keeps (fun x => x = b) w w' := by
  have HZ := Lib.hid hz; clear hz
  have hpl := h.str.lt
  have hbl := h.map.lt
  have hdl := hd.length
  have hpb : p ≠ b := by rintro rfl; exact h.map.notCells _ _ _ h.str
  refine callsIn_wide (n := 9).1 ?_
  refine callsIn_of_wp_marks Try.func34 rfl trivial ?_ rfl
  simp only [Try.ntmps34, List.size_toArray, List.length_cons, List.length_nil, Nat.reduceAdd, Nat.reduceSub, Array.replicate_succ, Array.replicate_zero, List.push_toArray, List.append_toArray, List.nil_append, List.cons_append]
  gi_wp2_with (refine ⟨trivial, ?_⟩; gi_at_call 55; refine (callsIn_wide.2 (chunk_any _ _ _ _)).mono ?_; rintro e w' ⟨rfl, rfl⟩)
  obtain ⟨W0, hW0⟩ : ∃ W0, (((((((w.alloc (Obj.cells #[Value.pointer (some { block := p, off := 0 })] 63)).alloc (Obj.cells #[Value.int IntKind.i64 a] 3)).alloc (Obj.cells #[Value.int IntKind.i64 0] 3)).alloc (Obj.cells #[Value.int IntKind.i64 0] 31)).alloc (Obj.cells #[Value.int IntKind.i64 0] 3)).alloc (Obj.cells #[Value.slice (some { block := g, off := off }) (cnt * 64) cap] 28)).alloc (Obj.cells #[Value.int IntKind.i64 64] 3)) = W0 := ⟨_, rfl⟩
  have hsz : w.heap.size + 7 ≤ W0.heap.size := by rw [← hW0]; simp
  have hi0 : WrAt w w.heap.size p b v a 0 0 0 (.slice (some ⟨g, off, none⟩) (cnt * 64) cap) v.bl W0 := by
    rw [← hW0]
    exact wr_start h a _
  rw [hW0]
  clear hW0
  refine wpIn_rangeFunc_ownG rfl (by omega) (gf := 58) (lb := #[.pointer (some ⟨w.heap.size + 1 + 1 + 1 + 1 + 1, 0, none⟩), .pointer (some ⟨w.heap.size + 1 + 1 + 1 + 1 + 1 + 1, 0, none⟩)]) rfl trivial (enters_of Try.func58 (by kernel_rfl) rfl)
    (chunk_stops (9 - 1) (by omega) (w.heap.size + 1 + 1 + 1 + 1 + 1) (w.heap.size + 1 + 1 + 1 + 1 + 1 + 1) g off cnt (cnt * 64) cap hcnt rfl hcap W0 hi0.x5 hi0.x6) KpC.trans (fun W l o o' hl ho h1 h2 => ⟨by simp, World.putObj_heap_other (by omega), World.putObj_heap_other (by omega)⟩) (Below.refl _ _) (fun _ => rfl)
    (fun pre W => ∃ bl, wrS v.quota a (pre.map fun x => piece data x.1) 0 v.bl = (bl, pre.length, 0) ∧ WrAt w w.heap.size p b v a pre.length 0 0 (.slice (some ⟨g, off, none⟩) (cnt * 64) cap) bl W)
    (fun c pre W => c = .ret ∧ ∃ (bl : _) (k k' : Nat), wrS v.quota a (pre.map fun x => piece data x.1) 0 v.bl = (bl, k, 30) ∧ WrAt w w.heap.size p b v a k' k 30 (.slice (some ⟨g, off, none⟩) (cnt * 64) cap) bl W)
    (fun s A B row ⟨bl, h1, h2⟩ hg hr => ⟨bl, h1, h2.own rfl hsz hpl hbl hg hr⟩)
    (fun c s A B row ⟨hc, bl, k, k', h1, h2⟩ hg hr => ⟨hc, bl, k, k', h1, h2.own rfl hsz hpl hbl hg hr⟩)
    ⟨v.bl, rfl, hi0⟩
    (fun x => { tmps := #[.pointer (some ⟨p, 0, none⟩), .int .i64 a, .slice (some ⟨g, off, none⟩) (cnt * 64) cap, .pointer (some ⟨w.heap.size, 0, none⟩), .pointer (some ⟨w.heap.size + 1, 0, none⟩), undef, .pointer (some ⟨w.heap.size + 1 + 1, 0, none⟩), .pointer (some ⟨w.heap.size + 1 + 1 + 1, 0, none⟩), .pointer (some ⟨w.heap.size + 1 + 1 + 1 + 1, 0, none⟩), .slice (some ⟨g, off + x.1 * 64, none⟩) 64 64, undef, undef, .slice (some ⟨g, off, none⟩) (cnt * 64) cap, .func (.func 58) #[] #[.pointer (some ⟨w.heap.size + 1 + 1 + 1 + 1 + 1, 0, none⟩), .pointer (some ⟨w.heap.size + 1 + 1 + 1 + 1 + 1 + 1, 0, none⟩)], .slice (some ⟨g, off + x.1 * 64, none⟩) 64 64, undef, undef, undef, undef, undef, undef, undef, undef, undef, undef, undef, undef, undef, undef, undef, undef, undef, undef, undef, undef, undef, undef, undef, undef, undef, undef, undef, undef, undef, undef, undef, undef, undef, undef, undef, undef], defers := [] }) ?assign ?body ?done ?stop
  case assign =>
    intro l x W K hK
    simp only [encP]
    gi_wp2
    exact hK
  case body =>
    rintro lp pre x W ⟨bl, hwr, hW⟩ hlt
    have hbx : BytesAt W (.slice (some ⟨g, off + x.1 * 64, none⟩) 64 64) (piece data x.1) := wr_piece hd x.1 (by have := x.2; omega) hW.kp (h.map.notCells)
    have hpx : (piece data x.1).length = 64 := piece_length hdl x.2
    obtain ⟨es, hml, hbe, hda⟩ := hW.vol.map
    dsimp only at hbe
    have hlk2 := es_look hda (a + (pre.length : Int))
    rw [← hbe] at hlk2
    obtain ⟨l, hl⟩ : ∃ l, l = es.map (fun e => (e.1, e.2.1)) := ⟨_, rfl⟩
    rw [← hl] at hlk2 hml
    have hll : l.length = bl.length := by rw [hl, hbe]; simp
    have HL := Lib.hid hl; clear hl
    have HBE := Lib.hid hbe; clear hbe
    have HDA := Lib.hid hda; clear hda
    have HW := Lib.hid hW
    have hc3 := hW.vol.str.cell 3
    have hc2 := hW.vol.str.cell 2
    simp only [Vo.cells, List.getElem?_toArray, List.getElem?_cons_zero, List.getElem?_cons_succ] at hc2 hc3
    have hS := Lib.hid (show WrS w.heap.size (w.heap.size + 1) p b (a + (pre.length : Int)) v.quota l W from ⟨by simp [World.cell?, hW.x0], by simp [World.cell?, hW.x1], hc2, hc3, hml⟩)
    have hT := Lib.hid (show WrT w.heap.size (w.heap.size + 1) p b (a + (pre.length : Int)) W from ⟨hS.out.q0, hS.out.q1, hS.out.q3⟩)
    have hc8 : W.cell? ⟨w.heap.size + 1 + 1 + 1 + 1, 0, none⟩ = some (.int .i64 (pre.length : Int)) := by simp [World.cell?, hW.x4]
    have hc6 : W.cell? ⟨w.heap.size + 1 + 1, 0, none⟩ = some (.int .i64 0) := by simp [World.cell?, hW.x2]
    have hc7 : W.cell? ⟨w.heap.size + 1 + 1 + 1, 0, none⟩ = some (.int .i64 0) := by simp [World.cell?, hW.x3]
    have hf6 : W.frozen? ⟨w.heap.size + 1 + 1, 0, none⟩ = false := by simp [World.frozen?, hW.x2]
    have hf7 : W.frozen? ⟨w.heap.size + 1 + 1 + 1, 0, none⟩ = false := by simp [World.frozen?, hW.x3]
    have hW7 : w.heap.size + 7 ≤ W.heap.size := (Array.getElem?_eq_some_iff.1 hW.x6).1
    clear hW hc2 hc3
    have HML := Lib.hid hml; clear hml
    rcases hlk2 with ⟨hbl0, hget⟩ | ⟨dv', d', hbl1, hget, hdd⟩
    · by_cases hq : v.quota ≤ (bl.length : Int)
      · have hq2 : v.quota ≤ (l.length : Int) := by omega
        gi_wp2
        refine wpIn_region_held_round (S := WrS (w.heap.size) (w.heap.size + 1) p b (a + (pre.length : Int)) v.quota l) (by kernel_rfl) (by kernel_rfl) (fun ⟨_, _, h⟩ => h) hS.out.drew (fun hHeld => ?_)
        refine wpAnyH_take (i := 0) (v := (.pointer (some ⟨p, 0, none⟩))) ops_at0 (by kernel_rfl) (by kernel_rfl) (by kernel_rfl) (fun _ _ _ h => h) (Or.inl ⟨by rfl, fun V hV => ?_⟩) hHeld ?_
        · obtain ⟨q0, q1, q2, q3, q4⟩ := hV
          go_simp
        simp only [Act.put, List.setIfInBounds_toArray, List.set_cons_zero, List.set_cons_succ]
        refine wpAnyH_take (i := 1) (v := (.pointer (some ⟨p, 0, none⟩))) ops_at1 (by kernel_rfl) (by kernel_rfl) (by kernel_rfl) (fun _ _ _ h => h) (Or.inl ⟨by rfl, fun V hV => ?_⟩) hHeld ?_
        · go_simp
        simp only [Act.put, List.setIfInBounds_toArray, List.set_cons_zero, List.set_cons_succ]
        refine wpAnyH_take (i := 2) (v := .pointer (some ⟨p, 3, none⟩)) ops_at2 (by kernel_rfl) (by kernel_rfl) (by kernel_rfl) (fun _ _ _ h => h) (Or.inl ⟨by rfl, fun V hV => ?_⟩) hHeld ?_
        · go_simp
        simp only [Act.put, List.setIfInBounds_toArray, List.set_cons_zero, List.set_cons_succ]
        refine wpAnyH_take (i := 3) (v := .map (some b)) ops_at3 (by kernel_rfl) (by kernel_rfl) (by kernel_rfl) (fun _ _ _ h => h) (Or.inl ⟨by rfl, fun V hV => ?_⟩) hHeld ?_
        · obtain ⟨q0, q1, q2, q3, q4⟩ := hV
          go_simp
        simp only [Act.put, List.setIfInBounds_toArray, List.set_cons_zero, List.set_cons_succ]
        refine wpAnyH_take (i := 4) (v := .int .i64 (a + (pre.length : Int))) ops_at4 (by kernel_rfl) (by kernel_rfl) (by kernel_rfl) (fun _ _ _ h => h) (Or.inl ⟨by rfl, fun V hV => ?_⟩) hHeld ?_
        · obtain ⟨q0, q1, q2, q3, q4⟩ := hV
          go_simp
        simp only [Act.put, List.setIfInBounds_toArray, List.set_cons_zero, List.set_cons_succ]
        refine wpAnyH_take (i := 5) (v := .tuple #[.slice none 0 0, .bool false]) ops_at5 (by kernel_rfl) (by kernel_rfl) (by kernel_rfl) (fun _ _ _ h => h) (Or.inl ⟨by rfl, fun V hV => ?_⟩) hHeld ?_
        · obtain ⟨q0, q1, q2, q3, q4⟩ := hV
          have hlk := run_look q4 (a + (pre.length : Int)) true
          rw [hget] at hlk
          go_simp
        simp only [Act.put, List.setIfInBounds_toArray, List.set_cons_zero, List.set_cons_succ]
        refine wpAnyH_take (i := 6) (v := .tuple #[.slice none 0 0, .bool false]) ops_at6 (by kernel_rfl) (by kernel_rfl) (by kernel_rfl) (fun _ _ _ h => h) (Or.inl ⟨by rfl, fun V hV => ?_⟩) hHeld ?_
        · go_simp
        simp only [Act.put, List.setIfInBounds_toArray, List.set_cons_zero, List.set_cons_succ]
        refine wpAnyH_take (i := 7) (v := .slice none 0 0) ops_at7 (by kernel_rfl) (by kernel_rfl) (by kernel_rfl) (fun _ _ _ h => h) (Or.inl ⟨by rfl, fun V hV => ?_⟩) hHeld ?_
        · go_simp
        simp only [Act.put, List.setIfInBounds_toArray, List.set_cons_zero, List.set_cons_succ]
        refine wpAnyH_take (i := 8) (v := .bool false) ops_at8 (by kernel_rfl) (by kernel_rfl) (by kernel_rfl) (fun _ _ _ h => h) (Or.inl ⟨by rfl, fun V hV => ?_⟩) hHeld ?_
        · go_simp
        simp only [Act.put, List.setIfInBounds_toArray, List.set_cons_zero, List.set_cons_succ]
        refine wpAnyH_take (i := 9) (v := .slice none 0 0) ops_at9 (by kernel_rfl) (by kernel_rfl) (by kernel_rfl) (fun _ _ _ h => h) (Or.inl ⟨by rfl, fun V hV => ?_⟩) hHeld ?_
        · go_simp
        simp only [Act.put, List.setIfInBounds_toArray, List.set_cons_zero, List.set_cons_succ]
        refine wpAnyH_take (i := 10) (v := .bool false) ops_at10 (by kernel_rfl) (by kernel_rfl) (by kernel_rfl) (fun _ _ _ h => h) (Or.inl ⟨by rfl, fun V hV => ?_⟩) hHeld ?_
        · go_simp
        simp only [Act.put, List.setIfInBounds_toArray, List.set_cons_zero, List.set_cons_succ]
        refine wpAnyH_done (by kernel_rfl) ?_ _
        gi_wp2
        refine wpIn_region_held_round (S := WrS (w.heap.size) (w.heap.size + 1) p b (a + (pre.length : Int)) v.quota l) (by kernel_rfl) (by kernel_rfl) (fun ⟨_, _, h⟩ => h) hS.out.drew.drew (fun hHeld => ?_)
        refine wpAnyH_take (i := 0) (v := .bool false) ops_at0 (by kernel_rfl) (by kernel_rfl) (by kernel_rfl) (fun _ _ _ h => h) (Or.inl ⟨by rfl, fun V hV => ?_⟩) hHeld ?_
        · go_simp
        simp only [Act.put, List.setIfInBounds_toArray, List.set_cons_zero, List.set_cons_succ]
        refine wpAnyH_take (i := 1) (v := .bool true) ops_at1 (by kernel_rfl) (by kernel_rfl) (by kernel_rfl) (fun _ _ _ h => h) (Or.inl ⟨by rfl, fun V hV => ?_⟩) hHeld ?_
        · go_simp
        simp only [Act.put, List.setIfInBounds_toArray, List.set_cons_zero, List.set_cons_succ]
        refine wpAnyH_take (i := 2) (v := .bool true) ops_at2 (by kernel_rfl) (by kernel_rfl) (by kernel_rfl) (fun _ _ _ h => h) (Or.inl ⟨by rfl, fun V hV => ?_⟩) hHeld ?_
        · go_simp
        simp only [Act.put, List.setIfInBounds_toArray, List.set_cons_zero, List.set_cons_succ]
        refine wpAnyH_take (i := 3) (v := (.pointer (some ⟨p, 0, none⟩))) ops_at3 (by kernel_rfl) (by kernel_rfl) (by kernel_rfl) (fun _ _ _ h => h) (Or.inl ⟨by rfl, fun V hV => ?_⟩) hHeld ?_
        · obtain ⟨q0, q1, q2, q3, q4⟩ := hV
          go_simp
        simp only [Act.put, List.setIfInBounds_toArray, List.set_cons_zero, List.set_cons_succ]
        refine wpAnyH_take (i := 4) (v := (.pointer (some ⟨p, 0, none⟩))) ops_at4 (by kernel_rfl) (by kernel_rfl) (by kernel_rfl) (fun _ _ _ h => h) (Or.inl ⟨by rfl, fun V hV => ?_⟩) hHeld ?_
        · go_simp
        simp only [Act.put, List.setIfInBounds_toArray, List.set_cons_zero, List.set_cons_succ]
        refine wpAnyH_take (i := 5) (v := .pointer (some ⟨p, 3, none⟩)) ops_at5 (by kernel_rfl) (by kernel_rfl) (by kernel_rfl) (fun _ _ _ h => h) (Or.inl ⟨by rfl, fun V hV => ?_⟩) hHeld ?_
        · go_simp
        simp only [Act.put, List.setIfInBounds_toArray, List.set_cons_zero, List.set_cons_succ]
        refine wpAnyH_take (i := 6) (v := .map (some b)) ops_at6 (by kernel_rfl) (by kernel_rfl) (by kernel_rfl) (fun _ _ _ h => h) (Or.inl ⟨by rfl, fun V hV => ?_⟩) hHeld ?_
        · obtain ⟨q0, q1, q2, q3, q4⟩ := hV
          go_simp
        simp only [Act.put, List.setIfInBounds_toArray, List.set_cons_zero, List.set_cons_succ]
        refine wpAnyH_take (i := 7) (v := goInt l.length) ops_at7 (by kernel_rfl) (by kernel_rfl) (by kernel_rfl) (fun _ _ _ h => h) (Or.inl ⟨by rfl, fun V hV => ?_⟩) hHeld ?_
        · obtain ⟨q0, q1, q2, q3, q4⟩ := hV
          have hln := run_maplen q4 3
          go_simp
        simp only [Act.put, List.setIfInBounds_toArray, List.set_cons_zero, List.set_cons_succ]
        refine wpAnyH_take (i := 8) (v := (.pointer (some ⟨p, 0, none⟩))) ops_at8 (by kernel_rfl) (by kernel_rfl) (by kernel_rfl) (fun _ _ _ h => h) (Or.inl ⟨by rfl, fun V hV => ?_⟩) hHeld ?_
        · obtain ⟨q0, q1, q2, q3, q4⟩ := hV
          go_simp
        simp only [Act.put, List.setIfInBounds_toArray, List.set_cons_zero, List.set_cons_succ]
        refine wpAnyH_take (i := 9) (v := (.pointer (some ⟨p, 0, none⟩))) ops_at9 (by kernel_rfl) (by kernel_rfl) (by kernel_rfl) (fun _ _ _ h => h) (Or.inl ⟨by rfl, fun V hV => ?_⟩) hHeld ?_
        · go_simp
        simp only [Act.put, List.setIfInBounds_toArray, List.set_cons_zero, List.set_cons_succ]
        refine wpAnyH_take (i := 10) (v := .pointer (some ⟨p, 2, none⟩)) ops_at10 (by kernel_rfl) (by kernel_rfl) (by kernel_rfl) (fun _ _ _ h => h) (Or.inl ⟨by rfl, fun V hV => ?_⟩) hHeld ?_
        · go_simp
        simp only [Act.put, List.setIfInBounds_toArray, List.set_cons_zero, List.set_cons_succ]
        refine wpAnyH_take (i := 11) (v := .int .i64 v.quota) ops_at11 (by kernel_rfl) (by kernel_rfl) (by kernel_rfl) (fun _ _ _ h => h) (Or.inl ⟨by rfl, fun V hV => ?_⟩) hHeld ?_
        · obtain ⟨q0, q1, q2, q3, q4⟩ := hV
          go_simp
        simp only [Act.put, List.setIfInBounds_toArray, List.set_cons_zero, List.set_cons_succ]
        refine wpAnyH_take (i := 12) (v := .bool true) ops_at12 (by kernel_rfl) (by kernel_rfl) (by kernel_rfl) (fun _ _ _ h => h) (Or.inl ⟨by rfl, fun V hV => ?_⟩) hHeld ?_
        · go_simp
        simp only [Act.put, List.setIfInBounds_toArray, List.set_cons_zero, List.set_cons_succ]
        refine wpAnyH_take (i := 13) (v := .bool true) ops_at13 (by kernel_rfl) (by kernel_rfl) (by kernel_rfl) (fun _ _ _ h => h) (Or.inl ⟨by rfl, fun V hV => ?_⟩) hHeld ?_
        · go_simp
        simp only [Act.put, List.setIfInBounds_toArray, List.set_cons_zero, List.set_cons_succ]
        refine wpAnyH_done (by kernel_rfl) ?_ _
        gi_wp2
        have hn := wr_last HW.out (Keeps.refl (fun _ => False) W).drew.drew rfl hpl hbl (pre.length : Int) 30 W0.heap.size hsz
        refine ⟨hn.1, rfl, _, _, _, ?_, hn.2⟩
        rw [List.map_append]
        exact wrS_full hwr _ ⟨hbl0, hq⟩
      · have hq2 : ¬ v.quota ≤ (l.length : Int) := by omega
        gi_wp2
        refine wpIn_region_held_round (S := WrS (w.heap.size) (w.heap.size + 1) p b (a + (pre.length : Int)) v.quota l) (by kernel_rfl) (by kernel_rfl) (fun ⟨_, _, h⟩ => h) hS.out.drew (fun hHeld => ?_)
        refine wpAnyH_take (i := 0) (v := (.pointer (some ⟨p, 0, none⟩))) ops_at0 (by kernel_rfl) (by kernel_rfl) (by kernel_rfl) (fun _ _ _ h => h) (Or.inl ⟨by rfl, fun V hV => ?_⟩) hHeld ?_
        · obtain ⟨q0, q1, q2, q3, q4⟩ := hV
          go_simp
        simp only [Act.put, List.setIfInBounds_toArray, List.set_cons_zero, List.set_cons_succ]
        refine wpAnyH_take (i := 1) (v := (.pointer (some ⟨p, 0, none⟩))) ops_at1 (by kernel_rfl) (by kernel_rfl) (by kernel_rfl) (fun _ _ _ h => h) (Or.inl ⟨by rfl, fun V hV => ?_⟩) hHeld ?_
        · go_simp
        simp only [Act.put, List.setIfInBounds_toArray, List.set_cons_zero, List.set_cons_succ]
        refine wpAnyH_take (i := 2) (v := .pointer (some ⟨p, 3, none⟩)) ops_at2 (by kernel_rfl) (by kernel_rfl) (by kernel_rfl) (fun _ _ _ h => h) (Or.inl ⟨by rfl, fun V hV => ?_⟩) hHeld ?_
        · go_simp
        simp only [Act.put, List.setIfInBounds_toArray, List.set_cons_zero, List.set_cons_succ]
        refine wpAnyH_take (i := 3) (v := .map (some b)) ops_at3 (by kernel_rfl) (by kernel_rfl) (by kernel_rfl) (fun _ _ _ h => h) (Or.inl ⟨by rfl, fun V hV => ?_⟩) hHeld ?_
        · obtain ⟨q0, q1, q2, q3, q4⟩ := hV
          go_simp
        simp only [Act.put, List.setIfInBounds_toArray, List.set_cons_zero, List.set_cons_succ]
        refine wpAnyH_take (i := 4) (v := .int .i64 (a + (pre.length : Int))) ops_at4 (by kernel_rfl) (by kernel_rfl) (by kernel_rfl) (fun _ _ _ h => h) (Or.inl ⟨by rfl, fun V hV => ?_⟩) hHeld ?_
        · obtain ⟨q0, q1, q2, q3, q4⟩ := hV
          go_simp
        simp only [Act.put, List.setIfInBounds_toArray, List.set_cons_zero, List.set_cons_succ]
        refine wpAnyH_take (i := 5) (v := .tuple #[.slice none 0 0, .bool false]) ops_at5 (by kernel_rfl) (by kernel_rfl) (by kernel_rfl) (fun _ _ _ h => h) (Or.inl ⟨by rfl, fun V hV => ?_⟩) hHeld ?_
        · obtain ⟨q0, q1, q2, q3, q4⟩ := hV
          have hlk := run_look q4 (a + (pre.length : Int)) true
          rw [hget] at hlk
          go_simp
        simp only [Act.put, List.setIfInBounds_toArray, List.set_cons_zero, List.set_cons_succ]
        refine wpAnyH_take (i := 6) (v := .tuple #[.slice none 0 0, .bool false]) ops_at6 (by kernel_rfl) (by kernel_rfl) (by kernel_rfl) (fun _ _ _ h => h) (Or.inl ⟨by rfl, fun V hV => ?_⟩) hHeld ?_
        · go_simp
        simp only [Act.put, List.setIfInBounds_toArray, List.set_cons_zero, List.set_cons_succ]
        refine wpAnyH_take (i := 7) (v := .slice none 0 0) ops_at7 (by kernel_rfl) (by kernel_rfl) (by kernel_rfl) (fun _ _ _ h => h) (Or.inl ⟨by rfl, fun V hV => ?_⟩) hHeld ?_
        · go_simp
        simp only [Act.put, List.setIfInBounds_toArray, List.set_cons_zero, List.set_cons_succ]
        refine wpAnyH_take (i := 8) (v := .bool false) ops_at8 (by kernel_rfl) (by kernel_rfl) (by kernel_rfl) (fun _ _ _ h => h) (Or.inl ⟨by rfl, fun V hV => ?_⟩) hHeld ?_
        · go_simp
        simp only [Act.put, List.setIfInBounds_toArray, List.set_cons_zero, List.set_cons_succ]
        refine wpAnyH_take (i := 9) (v := .slice none 0 0) ops_at9 (by kernel_rfl) (by kernel_rfl) (by kernel_rfl) (fun _ _ _ h => h) (Or.inl ⟨by rfl, fun V hV => ?_⟩) hHeld ?_
        · go_simp
        simp only [Act.put, List.setIfInBounds_toArray, List.set_cons_zero, List.set_cons_succ]
        refine wpAnyH_take (i := 10) (v := .bool false) ops_at10 (by kernel_rfl) (by kernel_rfl) (by kernel_rfl) (fun _ _ _ h => h) (Or.inl ⟨by rfl, fun V hV => ?_⟩) hHeld ?_
        · go_simp
        simp only [Act.put, List.setIfInBounds_toArray, List.set_cons_zero, List.set_cons_succ]
        refine wpAnyH_done (by kernel_rfl) ?_ _
        gi_wp2
        refine wpIn_region_held_round (S := WrS (w.heap.size) (w.heap.size + 1) p b (a + (pre.length : Int)) v.quota l) (by kernel_rfl) (by kernel_rfl) (fun ⟨_, _, h⟩ => h) hS.out.drew.drew (fun hHeld => ?_)
        refine wpAnyH_take (i := 0) (v := .bool false) ops_at0 (by kernel_rfl) (by kernel_rfl) (by kernel_rfl) (fun _ _ _ h => h) (Or.inl ⟨by rfl, fun V hV => ?_⟩) hHeld ?_
        · go_simp
        simp only [Act.put, List.setIfInBounds_toArray, List.set_cons_zero, List.set_cons_succ]
        refine wpAnyH_take (i := 1) (v := .bool true) ops_at1 (by kernel_rfl) (by kernel_rfl) (by kernel_rfl) (fun _ _ _ h => h) (Or.inl ⟨by rfl, fun V hV => ?_⟩) hHeld ?_
        · go_simp
        simp only [Act.put, List.setIfInBounds_toArray, List.set_cons_zero, List.set_cons_succ]
        refine wpAnyH_take (i := 2) (v := .bool true) ops_at2 (by kernel_rfl) (by kernel_rfl) (by kernel_rfl) (fun _ _ _ h => h) (Or.inl ⟨by rfl, fun V hV => ?_⟩) hHeld ?_
        · go_simp
        simp only [Act.put, List.setIfInBounds_toArray, List.set_cons_zero, List.set_cons_succ]
        refine wpAnyH_take (i := 3) (v := (.pointer (some ⟨p, 0, none⟩))) ops_at3 (by kernel_rfl) (by kernel_rfl) (by kernel_rfl) (fun _ _ _ h => h) (Or.inl ⟨by rfl, fun V hV => ?_⟩) hHeld ?_
        · obtain ⟨q0, q1, q2, q3, q4⟩ := hV
          go_simp
        simp only [Act.put, List.setIfInBounds_toArray, List.set_cons_zero, List.set_cons_succ]
        refine wpAnyH_take (i := 4) (v := (.pointer (some ⟨p, 0, none⟩))) ops_at4 (by kernel_rfl) (by kernel_rfl) (by kernel_rfl) (fun _ _ _ h => h) (Or.inl ⟨by rfl, fun V hV => ?_⟩) hHeld ?_
        · go_simp
        simp only [Act.put, List.setIfInBounds_toArray, List.set_cons_zero, List.set_cons_succ]
        refine wpAnyH_take (i := 5) (v := .pointer (some ⟨p, 3, none⟩)) ops_at5 (by kernel_rfl) (by kernel_rfl) (by kernel_rfl) (fun _ _ _ h => h) (Or.inl ⟨by rfl, fun V hV => ?_⟩) hHeld ?_
        · go_simp
        simp only [Act.put, List.setIfInBounds_toArray, List.set_cons_zero, List.set_cons_succ]
        refine wpAnyH_take (i := 6) (v := .map (some b)) ops_at6 (by kernel_rfl) (by kernel_rfl) (by kernel_rfl) (fun _ _ _ h => h) (Or.inl ⟨by rfl, fun V hV => ?_⟩) hHeld ?_
        · obtain ⟨q0, q1, q2, q3, q4⟩ := hV
          go_simp
        simp only [Act.put, List.setIfInBounds_toArray, List.set_cons_zero, List.set_cons_succ]
        refine wpAnyH_take (i := 7) (v := goInt l.length) ops_at7 (by kernel_rfl) (by kernel_rfl) (by kernel_rfl) (fun _ _ _ h => h) (Or.inl ⟨by rfl, fun V hV => ?_⟩) hHeld ?_
        · obtain ⟨q0, q1, q2, q3, q4⟩ := hV
          have hln := run_maplen q4 3
          go_simp
        simp only [Act.put, List.setIfInBounds_toArray, List.set_cons_zero, List.set_cons_succ]
        refine wpAnyH_take (i := 8) (v := (.pointer (some ⟨p, 0, none⟩))) ops_at8 (by kernel_rfl) (by kernel_rfl) (by kernel_rfl) (fun _ _ _ h => h) (Or.inl ⟨by rfl, fun V hV => ?_⟩) hHeld ?_
        · obtain ⟨q0, q1, q2, q3, q4⟩ := hV
          go_simp
        simp only [Act.put, List.setIfInBounds_toArray, List.set_cons_zero, List.set_cons_succ]
        refine wpAnyH_take (i := 9) (v := (.pointer (some ⟨p, 0, none⟩))) ops_at9 (by kernel_rfl) (by kernel_rfl) (by kernel_rfl) (fun _ _ _ h => h) (Or.inl ⟨by rfl, fun V hV => ?_⟩) hHeld ?_
        · go_simp
        simp only [Act.put, List.setIfInBounds_toArray, List.set_cons_zero, List.set_cons_succ]
        refine wpAnyH_take (i := 10) (v := .pointer (some ⟨p, 2, none⟩)) ops_at10 (by kernel_rfl) (by kernel_rfl) (by kernel_rfl) (fun _ _ _ h => h) (Or.inl ⟨by rfl, fun V hV => ?_⟩) hHeld ?_
        · go_simp
        simp only [Act.put, List.setIfInBounds_toArray, List.set_cons_zero, List.set_cons_succ]
        refine wpAnyH_take (i := 11) (v := .int .i64 v.quota) ops_at11 (by kernel_rfl) (by kernel_rfl) (by kernel_rfl) (fun _ _ _ h => h) (Or.inl ⟨by rfl, fun V hV => ?_⟩) hHeld ?_
        · obtain ⟨q0, q1, q2, q3, q4⟩ := hV
          go_simp
        simp only [Act.put, List.setIfInBounds_toArray, List.set_cons_zero, List.set_cons_succ]
        refine wpAnyH_take (i := 12) (v := .bool false) ops_at12 (by kernel_rfl) (by kernel_rfl) (by kernel_rfl) (fun _ _ _ h => h) (Or.inl ⟨by rfl, fun V hV => ?_⟩) hHeld ?_
        · go_simp
        simp only [Act.put, List.setIfInBounds_toArray, List.set_cons_zero, List.set_cons_succ]
        refine wpAnyH_take (i := 13) (v := .bool false) ops_at13 (by kernel_rfl) (by kernel_rfl) (by kernel_rfl) (fun _ _ _ h => h) (Or.inl ⟨by rfl, fun V hV => ?_⟩) hHeld ?_
        · go_simp
        simp only [Act.put, List.setIfInBounds_toArray, List.set_cons_zero, List.set_cons_succ]
        refine wpAnyH_done (by kernel_rfl) ?_ _
        gi_wp2
        refine wpIn_region_held_round (S := WrT (w.heap.size) (w.heap.size + 1) p b (a + (pre.length : Int))) (by kernel_rfl) (by kernel_rfl) (fun ⟨_, _, h⟩ => h) hT.out.drew.drew.drew (fun hHeld => ?_)
        refine wpAnyH_take (i := 0) (v := (.pointer (some ⟨p, 0, none⟩))) ops_at0 (by kernel_rfl) (by kernel_rfl) (by kernel_rfl) (fun _ _ _ h => h) (Or.inl ⟨by rfl, fun V hV => ?_⟩) hHeld ?_
        · obtain ⟨q0, q1, q3⟩ := hV
          go_simp
        simp only [Act.put, List.setIfInBounds_toArray, List.set_cons_zero, List.set_cons_succ]
        refine wpAnyH_take (i := 1) (v := (.pointer (some ⟨p, 0, none⟩))) ops_at1 (by kernel_rfl) (by kernel_rfl) (by kernel_rfl) (fun _ _ _ h => h) (Or.inl ⟨by rfl, fun V hV => ?_⟩) hHeld ?_
        · go_simp
        simp only [Act.put, List.setIfInBounds_toArray, List.set_cons_zero, List.set_cons_succ]
        refine wpAnyH_take (i := 2) (v := .pointer (some ⟨p, 3, none⟩)) ops_at2 (by kernel_rfl) (by kernel_rfl) (by kernel_rfl) (fun _ _ _ h => h) (Or.inl ⟨by rfl, fun V hV => ?_⟩) hHeld ?_
        · go_simp
        simp only [Act.put, List.setIfInBounds_toArray, List.set_cons_zero, List.set_cons_succ]
        refine wpAnyH_take (i := 3) (v := .map (some b)) ops_at3 (by kernel_rfl) (by kernel_rfl) (by kernel_rfl) (fun _ _ _ h => h) (Or.inl ⟨by rfl, fun V hV => ?_⟩) hHeld ?_
        · obtain ⟨q0, q1, q3⟩ := hV
          go_simp
        simp only [Act.put, List.setIfInBounds_toArray, List.set_cons_zero, List.set_cons_succ]
        refine wpAnyH_take (i := 4) (v := .int .i64 (a + (pre.length : Int))) ops_at4 (by kernel_rfl) (by kernel_rfl) (by kernel_rfl) (fun _ _ _ h => h) (Or.inl ⟨by rfl, fun V hV => ?_⟩) hHeld ?_
        · obtain ⟨q0, q1, q3⟩ := hV
          go_simp
        simp only [Act.put, List.setIfInBounds_toArray, List.set_cons_zero, List.set_cons_succ]
        refine wpAnyH_take (i := 5) (v := .slice (some ⟨g, off + x.1 * 64, none⟩) 64 64) ops_at5 (by kernel_rfl) (by kernel_rfl) (by kernel_rfl) (fun _ _ _ h => h) (Or.inl ⟨by rfl, fun V hV => ?_⟩) hHeld ?_
        · go_simp
        simp only [Act.put, List.setIfInBounds_toArray, List.set_cons_zero, List.set_cons_succ]
        refine wpAnyH_ready (rs := [6]) (by kernel_rfl) (by simp) ?_
        refine AllReadyH.cons ops_at6 (fun K hK => ?_) AllReadyH.nil
        rw [if_pos (by rfl)]
        go_simp
        refine (clone_any _ _ _ (hbx.later (Below.refl _ W).drew.drew.drew) (by omega)).mono ?_
        rintro e w2 ⟨v2, rfl, hown, hbel⟩
        go_wp2_with fail
        have hb2 : Below W.heap.size W w2 := ((Below.refl _ W).drew.drew.drew).trans hbel
        have hd2 : DataAt w2 v2 (piece data x.1) := ⟨hown.mono (Nat.zero_le _), hpx, fun x hx hz => by have h1 := HZ.out x hz; have h2 := (Owns.from hown x hx).1; have h3 : W.drew.drew.drew.heap.size = W.heap.size := rfl; omega⟩
        clear hbel hown
        obtain ⟨g2, c2, _, hv2, _⟩ := hd2.form
        subst hv2
        have HD2 := Lib.hid hd2; clear hd2
        have HB2 := Lib.hid hb2; clear hb2
        have hT2 : WrT (w.heap.size) (w.heap.size + 1) p b (a + (pre.length : Int)) w2 := hT.out.below HB2.out
        have hm2 : MapIs w2 b l := HML.out.keeps (Keeps.of_below (F := fun _ => False) HB2.out) (fun h => h)
        refine hK.out _ _ hT2 (fun hHeld2 => ?_)
        clear hK K hT2
        obtain ⟨w3, hput, hm3, hk3, hs3⟩ := run_put hm2 (a + (pre.length : Int)) (.slice (some ⟨g2, 0, none⟩) 64 c2)
        have HM2 := Lib.hid hm2; clear hm2
        have HM3 := Lib.hid hm3; clear hm3
        have HK3 := Lib.hid hk3; clear hk3 hs3
        refine wpAnyH_ready (rs := [7]) (by kernel_rfl) (by simp) ?_
        refine AllReadyH.cons ops_at7 (fun K hK => ?_) AllReadyH.nil
        rw [if_pos (by rfl)]
        go_simp
        have hw3 : Keeps (fun x => x = b) W w3 := (Keeps.of_below HB2.out).trans HK3.out (fun _ _ h => h)
        have hT3 : WrT (w.heap.size) (w.heap.size + 1) p b (a + (pre.length : Int)) w3 := hT.out.keeps hw3 (by show ¬ _ = _; omega) (by show ¬ _ = _; omega) (by show ¬ _ = _; omega)
        have hc1 := hT3.q1
        have hf1 : w3.frozen? ⟨w.heap.size + 1, 0, none⟩ = false := (hw3.frozen (p := ⟨w.heap.size + 1, 0, none⟩) (by show w.heap.size + 1 < _; omega) (by show ¬ w.heap.size + 1 = _; omega)).trans (by simp [World.frozen?, HW.out.x1])
        have hc4 : w3.cell? ⟨w.heap.size + 1 + 1 + 1 + 1, 0, none⟩ = some (.int .i64 (pre.length : Int)) := (hw3.cell (p := ⟨w.heap.size + 1 + 1 + 1 + 1, 0, none⟩) (by show w.heap.size + 1 + 1 + 1 + 1 < _; omega) (by show ¬ w.heap.size + 1 + 1 + 1 + 1 = _; omega)).trans hc8
        have hf4 : w3.frozen? ⟨w.heap.size + 1 + 1 + 1 + 1, 0, none⟩ = false := (hw3.frozen (p := ⟨w.heap.size + 1 + 1 + 1 + 1, 0, none⟩) (by show w.heap.size + 1 + 1 + 1 + 1 < _; omega) (by show ¬ w.heap.size + 1 + 1 + 1 + 1 = _; omega)).trans (by simp [World.frozen?, HW.out.x4])
        refine hK.out _ _ hT3 (fun hHeld3 => ?_)
        clear hK K hT3 hw3
        refine wpAnyH_done (by kernel_rfl) ?_ _
        gi_wp2
        have hn := wr_next HW.out rfl hpl hbl HBE.out HDA.out HB2.out HD2.out (HL.out ▸ HM2.out) (HL.out ▸ HM3.out) HK3.out W0.heap.size hsz
        refine ⟨hn.1, hn.2.1, putAt (a + (pre.length : Int)) (piece data x.1) bl, ?_, ?_⟩
        · rw [List.map_append, List.length_append]; exact wrS_go hwr _ (by rintro ⟨e1, e2⟩; first | (rw [hbl1] at e1; cases e1) | omega)
        · rw [List.length_append]; exact hn.2.2
    · obtain ⟨gd, cd, _, rfl, _⟩ := hdd.form
      gi_wp2
      refine wpIn_region_held_round (S := WrS (w.heap.size) (w.heap.size + 1) p b (a + (pre.length : Int)) v.quota l) (by kernel_rfl) (by kernel_rfl) (fun ⟨_, _, h⟩ => h) hS.out.drew (fun hHeld => ?_)
      refine wpAnyH_take (i := 0) (v := (.pointer (some ⟨p, 0, none⟩))) ops_at0 (by kernel_rfl) (by kernel_rfl) (by kernel_rfl) (fun _ _ _ h => h) (Or.inl ⟨by rfl, fun V hV => ?_⟩) hHeld ?_
      · obtain ⟨q0, q1, q2, q3, q4⟩ := hV
        go_simp
      simp only [Act.put, List.setIfInBounds_toArray, List.set_cons_zero, List.set_cons_succ]
      refine wpAnyH_take (i := 1) (v := (.pointer (some ⟨p, 0, none⟩))) ops_at1 (by kernel_rfl) (by kernel_rfl) (by kernel_rfl) (fun _ _ _ h => h) (Or.inl ⟨by rfl, fun V hV => ?_⟩) hHeld ?_
      · go_simp
      simp only [Act.put, List.setIfInBounds_toArray, List.set_cons_zero, List.set_cons_succ]
      refine wpAnyH_take (i := 2) (v := .pointer (some ⟨p, 3, none⟩)) ops_at2 (by kernel_rfl) (by kernel_rfl) (by kernel_rfl) (fun _ _ _ h => h) (Or.inl ⟨by rfl, fun V hV => ?_⟩) hHeld ?_
      · go_simp
      simp only [Act.put, List.setIfInBounds_toArray, List.set_cons_zero, List.set_cons_succ]
      refine wpAnyH_take (i := 3) (v := .map (some b)) ops_at3 (by kernel_rfl) (by kernel_rfl) (by kernel_rfl) (fun _ _ _ h => h) (Or.inl ⟨by rfl, fun V hV => ?_⟩) hHeld ?_
      · obtain ⟨q0, q1, q2, q3, q4⟩ := hV
        go_simp
      simp only [Act.put, List.setIfInBounds_toArray, List.set_cons_zero, List.set_cons_succ]
      refine wpAnyH_take (i := 4) (v := .int .i64 (a + (pre.length : Int))) ops_at4 (by kernel_rfl) (by kernel_rfl) (by kernel_rfl) (fun _ _ _ h => h) (Or.inl ⟨by rfl, fun V hV => ?_⟩) hHeld ?_
      · obtain ⟨q0, q1, q2, q3, q4⟩ := hV
        go_simp
      simp only [Act.put, List.setIfInBounds_toArray, List.set_cons_zero, List.set_cons_succ]
      refine wpAnyH_take (i := 5) (v := .tuple #[.slice (some ⟨gd, 0, none⟩) 64 cd, .bool true]) ops_at5 (by kernel_rfl) (by kernel_rfl) (by kernel_rfl) (fun _ _ _ h => h) (Or.inl ⟨by rfl, fun V hV => ?_⟩) hHeld ?_
      · obtain ⟨q0, q1, q2, q3, q4⟩ := hV
        have hlk := run_look q4 (a + (pre.length : Int)) true
        rw [hget] at hlk
        go_simp
      simp only [Act.put, List.setIfInBounds_toArray, List.set_cons_zero, List.set_cons_succ]
      refine wpAnyH_take (i := 6) (v := .tuple #[.slice (some ⟨gd, 0, none⟩) 64 cd, .bool true]) ops_at6 (by kernel_rfl) (by kernel_rfl) (by kernel_rfl) (fun _ _ _ h => h) (Or.inl ⟨by rfl, fun V hV => ?_⟩) hHeld ?_
      · go_simp
      simp only [Act.put, List.setIfInBounds_toArray, List.set_cons_zero, List.set_cons_succ]
      refine wpAnyH_take (i := 7) (v := .slice (some ⟨gd, 0, none⟩) 64 cd) ops_at7 (by kernel_rfl) (by kernel_rfl) (by kernel_rfl) (fun _ _ _ h => h) (Or.inl ⟨by rfl, fun V hV => ?_⟩) hHeld ?_
      · go_simp
      simp only [Act.put, List.setIfInBounds_toArray, List.set_cons_zero, List.set_cons_succ]
      refine wpAnyH_take (i := 8) (v := .bool true) ops_at8 (by kernel_rfl) (by kernel_rfl) (by kernel_rfl) (fun _ _ _ h => h) (Or.inl ⟨by rfl, fun V hV => ?_⟩) hHeld ?_
      · go_simp
      simp only [Act.put, List.setIfInBounds_toArray, List.set_cons_zero, List.set_cons_succ]
      refine wpAnyH_take (i := 9) (v := .slice (some ⟨gd, 0, none⟩) 64 cd) ops_at9 (by kernel_rfl) (by kernel_rfl) (by kernel_rfl) (fun _ _ _ h => h) (Or.inl ⟨by rfl, fun V hV => ?_⟩) hHeld ?_
      · go_simp
      simp only [Act.put, List.setIfInBounds_toArray, List.set_cons_zero, List.set_cons_succ]
      refine wpAnyH_take (i := 10) (v := .bool true) ops_at10 (by kernel_rfl) (by kernel_rfl) (by kernel_rfl) (fun _ _ _ h => h) (Or.inl ⟨by rfl, fun V hV => ?_⟩) hHeld ?_
      · go_simp
      simp only [Act.put, List.setIfInBounds_toArray, List.set_cons_zero, List.set_cons_succ]
      refine wpAnyH_done (by kernel_rfl) ?_ _
      gi_wp2
      refine wpIn_region_held_round (S := WrS (w.heap.size) (w.heap.size + 1) p b (a + (pre.length : Int)) v.quota l) (by kernel_rfl) (by kernel_rfl) (fun ⟨_, _, h⟩ => h) hS.out.drew.drew (fun hHeld => ?_)
      refine wpAnyH_take (i := 0) (v := .bool true) ops_at0 (by kernel_rfl) (by kernel_rfl) (by kernel_rfl) (fun _ _ _ h => h) (Or.inl ⟨by rfl, fun V hV => ?_⟩) hHeld ?_
      · go_simp
      simp only [Act.put, List.setIfInBounds_toArray, List.set_cons_zero, List.set_cons_succ]
      refine wpAnyH_take (i := 1) (v := .bool false) ops_at1 (by kernel_rfl) (by kernel_rfl) (by kernel_rfl) (fun _ _ _ h => h) (Or.inl ⟨by rfl, fun V hV => ?_⟩) hHeld ?_
      · go_simp
      simp only [Act.put, List.setIfInBounds_toArray, List.set_cons_zero, List.set_cons_succ]
      refine wpAnyH_take (i := 2) (v := .bool false) ops_at2 (by kernel_rfl) (by kernel_rfl) (by kernel_rfl) (fun _ _ _ h => h) (Or.inl ⟨by rfl, fun V hV => ?_⟩) hHeld ?_
      · go_simp
      simp only [Act.put, List.setIfInBounds_toArray, List.set_cons_zero, List.set_cons_succ]
      refine wpAnyH_take (i := 3) ops_at3 (by kernel_rfl) (by kernel_rfl) (by kernel_rfl) (fun _ _ _ h => h) (Or.inr ⟨by rfl, rfl⟩) hHeld ?_
      simp only [Act.put, List.setIfInBounds_toArray, List.set_cons_zero, List.set_cons_succ]
      refine wpAnyH_take (i := 4) ops_at4 (by kernel_rfl) (by kernel_rfl) (by kernel_rfl) (fun _ _ _ h => h) (Or.inr ⟨by rfl, rfl⟩) hHeld ?_
      simp only [Act.put, List.setIfInBounds_toArray, List.set_cons_zero, List.set_cons_succ]
      refine wpAnyH_take (i := 5) ops_at5 (by kernel_rfl) (by kernel_rfl) (by kernel_rfl) (fun _ _ _ h => h) (Or.inr ⟨by rfl, rfl⟩) hHeld ?_
      simp only [Act.put, List.setIfInBounds_toArray, List.set_cons_zero, List.set_cons_succ]
      refine wpAnyH_take (i := 6) ops_at6 (by kernel_rfl) (by kernel_rfl) (by kernel_rfl) (fun _ _ _ h => h) (Or.inr ⟨by rfl, rfl⟩) hHeld ?_
      simp only [Act.put, List.setIfInBounds_toArray, List.set_cons_zero, List.set_cons_succ]
      refine wpAnyH_take (i := 7) ops_at7 (by kernel_rfl) (by kernel_rfl) (by kernel_rfl) (fun _ _ _ h => h) (Or.inr ⟨by rfl, rfl⟩) hHeld ?_
      simp only [Act.put, List.setIfInBounds_toArray, List.set_cons_zero, List.set_cons_succ]
      refine wpAnyH_take (i := 8) ops_at8 (by kernel_rfl) (by kernel_rfl) (by kernel_rfl) (fun _ _ _ h => h) (Or.inr ⟨by rfl, rfl⟩) hHeld ?_
      simp only [Act.put, List.setIfInBounds_toArray, List.set_cons_zero, List.set_cons_succ]
      refine wpAnyH_take (i := 9) ops_at9 (by kernel_rfl) (by kernel_rfl) (by kernel_rfl) (fun _ _ _ h => h) (Or.inr ⟨by rfl, rfl⟩) hHeld ?_
      simp only [Act.put, List.setIfInBounds_toArray, List.set_cons_zero, List.set_cons_succ]
      refine wpAnyH_take (i := 10) ops_at10 (by kernel_rfl) (by kernel_rfl) (by kernel_rfl) (fun _ _ _ h => h) (Or.inr ⟨by rfl, rfl⟩) hHeld ?_
      simp only [Act.put, List.setIfInBounds_toArray, List.set_cons_zero, List.set_cons_succ]
      refine wpAnyH_take (i := 11) ops_at11 (by kernel_rfl) (by kernel_rfl) (by kernel_rfl) (fun _ _ _ h => h) (Or.inr ⟨by rfl, rfl⟩) hHeld ?_
      simp only [Act.put, List.setIfInBounds_toArray, List.set_cons_zero, List.set_cons_succ]
      refine wpAnyH_take (i := 12) ops_at12 (by kernel_rfl) (by kernel_rfl) (by kernel_rfl) (fun _ _ _ h => h) (Or.inr ⟨by rfl, rfl⟩) hHeld ?_
      simp only [Act.put, List.setIfInBounds_toArray, List.set_cons_zero, List.set_cons_succ]
      refine wpAnyH_take (i := 13) (v := .bool false) ops_at13 (by kernel_rfl) (by kernel_rfl) (by kernel_rfl) (fun _ _ _ h => h) (Or.inl ⟨by rfl, fun V hV => ?_⟩) hHeld ?_
      · go_simp
      simp only [Act.put, List.setIfInBounds_toArray, List.set_cons_zero, List.set_cons_succ]
      refine wpAnyH_done (by kernel_rfl) ?_ _
      gi_wp2
      refine wpIn_region_held_round (S := WrT (w.heap.size) (w.heap.size + 1) p b (a + (pre.length : Int))) (by kernel_rfl) (by kernel_rfl) (fun ⟨_, _, h⟩ => h) hT.out.drew.drew.drew (fun hHeld => ?_)
      refine wpAnyH_take (i := 0) (v := (.pointer (some ⟨p, 0, none⟩))) ops_at0 (by kernel_rfl) (by kernel_rfl) (by kernel_rfl) (fun _ _ _ h => h) (Or.inl ⟨by rfl, fun V hV => ?_⟩) hHeld ?_
      · obtain ⟨q0, q1, q3⟩ := hV
        go_simp
      simp only [Act.put, List.setIfInBounds_toArray, List.set_cons_zero, List.set_cons_succ]
      refine wpAnyH_take (i := 1) (v := (.pointer (some ⟨p, 0, none⟩))) ops_at1 (by kernel_rfl) (by kernel_rfl) (by kernel_rfl) (fun _ _ _ h => h) (Or.inl ⟨by rfl, fun V hV => ?_⟩) hHeld ?_
      · go_simp
      simp only [Act.put, List.setIfInBounds_toArray, List.set_cons_zero, List.set_cons_succ]
      refine wpAnyH_take (i := 2) (v := .pointer (some ⟨p, 3, none⟩)) ops_at2 (by kernel_rfl) (by kernel_rfl) (by kernel_rfl) (fun _ _ _ h => h) (Or.inl ⟨by rfl, fun V hV => ?_⟩) hHeld ?_
      · go_simp
      simp only [Act.put, List.setIfInBounds_toArray, List.set_cons_zero, List.set_cons_succ]
      refine wpAnyH_take (i := 3) (v := .map (some b)) ops_at3 (by kernel_rfl) (by kernel_rfl) (by kernel_rfl) (fun _ _ _ h => h) (Or.inl ⟨by rfl, fun V hV => ?_⟩) hHeld ?_
      · obtain ⟨q0, q1, q3⟩ := hV
        go_simp
      simp only [Act.put, List.setIfInBounds_toArray, List.set_cons_zero, List.set_cons_succ]
      refine wpAnyH_take (i := 4) (v := .int .i64 (a + (pre.length : Int))) ops_at4 (by kernel_rfl) (by kernel_rfl) (by kernel_rfl) (fun _ _ _ h => h) (Or.inl ⟨by rfl, fun V hV => ?_⟩) hHeld ?_
      · obtain ⟨q0, q1, q3⟩ := hV
        go_simp
      simp only [Act.put, List.setIfInBounds_toArray, List.set_cons_zero, List.set_cons_succ]
      refine wpAnyH_take (i := 5) (v := .slice (some ⟨g, off + x.1 * 64, none⟩) 64 64) ops_at5 (by kernel_rfl) (by kernel_rfl) (by kernel_rfl) (fun _ _ _ h => h) (Or.inl ⟨by rfl, fun V hV => ?_⟩) hHeld ?_
      · go_simp
      simp only [Act.put, List.setIfInBounds_toArray, List.set_cons_zero, List.set_cons_succ]
      refine wpAnyH_ready (rs := [6]) (by kernel_rfl) (by simp) ?_
      refine AllReadyH.cons ops_at6 (fun K hK => ?_) AllReadyH.nil
      rw [if_pos (by rfl)]
      go_simp
      refine (clone_any _ _ _ (hbx.later (Below.refl _ W).drew.drew.drew) (by omega)).mono ?_
      rintro e w2 ⟨v2, rfl, hown, hbel⟩
      go_wp2_with fail
      have hb2 : Below W.heap.size W w2 := ((Below.refl _ W).drew.drew.drew).trans hbel
      have hd2 : DataAt w2 v2 (piece data x.1) := ⟨hown.mono (Nat.zero_le _), hpx, fun x hx hz => by have h1 := HZ.out x hz; have h2 := (Owns.from hown x hx).1; have h3 : W.drew.drew.drew.heap.size = W.heap.size := rfl; omega⟩
      clear hbel hown
      obtain ⟨g2, c2, _, hv2, _⟩ := hd2.form
      subst hv2
      have HD2 := Lib.hid hd2; clear hd2
      have HB2 := Lib.hid hb2; clear hb2
      have hT2 : WrT (w.heap.size) (w.heap.size + 1) p b (a + (pre.length : Int)) w2 := hT.out.below HB2.out
      have hm2 : MapIs w2 b l := HML.out.keeps (Keeps.of_below (F := fun _ => False) HB2.out) (fun h => h)
      refine hK.out _ _ hT2 (fun hHeld2 => ?_)
      clear hK K hT2
      obtain ⟨w3, hput, hm3, hk3, hs3⟩ := run_put hm2 (a + (pre.length : Int)) (.slice (some ⟨g2, 0, none⟩) 64 c2)
      have HM2 := Lib.hid hm2; clear hm2
      have HM3 := Lib.hid hm3; clear hm3
      have HK3 := Lib.hid hk3; clear hk3 hs3
      refine wpAnyH_ready (rs := [7]) (by kernel_rfl) (by simp) ?_
      refine AllReadyH.cons ops_at7 (fun K hK => ?_) AllReadyH.nil
      rw [if_pos (by rfl)]
      go_simp
      have hw3 : Keeps (fun x => x = b) W w3 := (Keeps.of_below HB2.out).trans HK3.out (fun _ _ h => h)
      have hT3 : WrT (w.heap.size) (w.heap.size + 1) p b (a + (pre.length : Int)) w3 := hT.out.keeps hw3 (by show ¬ _ = _; omega) (by show ¬ _ = _; omega) (by show ¬ _ = _; omega)
      have hc1 := hT3.q1
      have hf1 : w3.frozen? ⟨w.heap.size + 1, 0, none⟩ = false := (hw3.frozen (p := ⟨w.heap.size + 1, 0, none⟩) (by show w.heap.size + 1 < _; omega) (by show ¬ w.heap.size + 1 = _; omega)).trans (by simp [World.frozen?, HW.out.x1])
      have hc4 : w3.cell? ⟨w.heap.size + 1 + 1 + 1 + 1, 0, none⟩ = some (.int .i64 (pre.length : Int)) := (hw3.cell (p := ⟨w.heap.size + 1 + 1 + 1 + 1, 0, none⟩) (by show w.heap.size + 1 + 1 + 1 + 1 < _; omega) (by show ¬ w.heap.size + 1 + 1 + 1 + 1 = _; omega)).trans hc8
      have hf4 : w3.frozen? ⟨w.heap.size + 1 + 1 + 1 + 1, 0, none⟩ = false := (hw3.frozen (p := ⟨w.heap.size + 1 + 1 + 1 + 1, 0, none⟩) (by show w.heap.size + 1 + 1 + 1 + 1 < _; omega) (by show ¬ w.heap.size + 1 + 1 + 1 + 1 = _; omega)).trans (by simp [World.frozen?, HW.out.x4])
      refine hK.out _ _ hT3 (fun hHeld3 => ?_)
      clear hK K hT3 hw3
      refine wpAnyH_done (by kernel_rfl) ?_ _
      gi_wp2
      have hn := wr_next HW.out rfl hpl hbl HBE.out HDA.out HB2.out HD2.out (HL.out ▸ HM2.out) (HL.out ▸ HM3.out) HK3.out W0.heap.size hsz
      refine ⟨hn.1, hn.2.1, putAt (a + (pre.length : Int)) (piece data x.1) bl, ?_, ?_⟩
      · rw [List.map_append, List.length_append]; exact wrS_go hwr _ (by rintro ⟨e1, e2⟩; first | (rw [hbl1] at e1; cases e1) | omega)
      · rw [List.length_append]; exact hn.2.2
  case done =>
    rintro D ys W hD rfl ⟨bl, hwr, hW⟩ hK
    rw [pcs_length] at hwr hW
    rw [pieces_pcs] at hwr
    have hc8 : W.cell? ⟨w.heap.size + 1 + 1 + 1 + 1, 0, none⟩ = some (.int .i64 (cnt : Int)) := by simp [World.cell?, hW.x4]
    have hc6 : W.cell? ⟨w.heap.size + 1 + 1, 0, none⟩ = some (.int .i64 0) := by simp [World.cell?, hW.x2]
    have hc7 : W.cell? ⟨w.heap.size + 1 + 1 + 1, 0, none⟩ = some (.int .i64 0) := by simp [World.cell?, hW.x3]
    have hf6 : W.frozen? ⟨w.heap.size + 1 + 1, 0, none⟩ = false := by simp [World.frozen?, hW.x2]
    have hf7 : W.frozen? ⟨w.heap.size + 1 + 1 + 1, 0, none⟩ = false := by simp [World.frozen?, hW.x3]
    gi_wp2
    obtain ⟨Wf, hWf⟩ : ∃ Wf, (W.setCell { block := w.heap.size + 1 + 1, off := 0 } (Value.int IntKind.i64 (cnt : Int))).setCell { block := w.heap.size + 1 + 1 + 1, off := 0 } (Value.int IntKind.i64 0) = Wf := ⟨_, rfl⟩
    have hn := wr_last hW (Keeps.refl (fun _ => False) W) rfl hpl hbl (cnt : Int) 0 W0.heap.size hsz
    rw [hWf] at hn
    rw [hWf]
    have hK2 : Wf.heap[D]? = some (.deferred (some [])) := hn.1.same D _ hD hK rfl
    have hf := hn.2.own rfl hsz hpl hbl (grownBy_putObj' Wf D (.deferred none)) (fun r e => by cases e; exact ⟨hD, _, hK2, rfl⟩)
    have hr6 : (Wf.putObj D (.deferred none)).cell? ⟨w.heap.size + 1 + 1, 0, none⟩ = some (.int .i64 ((cnt : Int))) := by simp [World.cell?, hf.x2]
    have hr7 : (Wf.putObj D (.deferred none)).cell? ⟨w.heap.size + 1 + 1 + 1, 0, none⟩ = some (.int .i64 (0)) := by simp [World.cell?, hf.x3]
    refine ⟨by simp, .inl ⟨_, _, rfl, run_takeDeferred hK2, ?_⟩⟩
    refine ⟨.tuple #[.int .i64 ((cnt : Int)), .int .i64 (0)], by simp [results, Try.f34, go_sem, hr6, hr7], _, _, _, hwr, rfl, hf.vol, hf.kp⟩
  case stop =>
    rintro D c pre W hD ⟨k, hk, rfl⟩ ⟨rfl, bl, k1, k2, hwr, hW⟩ hK
    rw [pieces_pcs] at hwr
    obtain ⟨ys, hys⟩ := pieces_more data cnt k hk
    have hwr2 : writeS v a data cnt = (bl, k1, 30) := by unfold writeS; rw [hys]; exact wrS_stop hwr ys
    gi_wp2
    have hf := hW.own rfl hsz hpl hbl (grownBy_putObj' W D (.deferred none)) (fun r e => by cases e; exact ⟨hD, _, hK, rfl⟩)
    have hK2 := hK
    have hr6 : (W.putObj D (.deferred none)).cell? ⟨w.heap.size + 1 + 1, 0, none⟩ = some (.int .i64 ((k1 : Int))) := by simp [World.cell?, hf.x2]
    have hr7 : (W.putObj D (.deferred none)).cell? ⟨w.heap.size + 1 + 1 + 1, 0, none⟩ = some (.int .i64 (30)) := by simp [World.cell?, hf.x3]
    refine ⟨by simp, .inl ⟨_, _, rfl, run_takeDeferred hK2, ?_⟩⟩
    refine ⟨.tuple #[.int .i64 ((k1 : Int)), .int .i64 (30)], by simp [results, Try.f34, go_sem, hr6, hr7], _, _, _, hwr2, rfl, hf.vol, hf.kp⟩
end Go.Proofs.Ytmanldcohbegkaa
