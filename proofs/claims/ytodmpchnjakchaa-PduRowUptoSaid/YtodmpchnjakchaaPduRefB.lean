/-
  PDUs: how one lies in memory; may.
-/
import Derived.Test.YtodmpchnjakchaaPduRefA
namespace Go.Proofs.Ytodmpchnjakchaa
open Go.RowKit

/-- A byte of its tail. -/
def Pdu.PD.tb (p : Pdu.PD) (i : Nat) : Nat := p.tail.getD i 0
/-- Its cells; dv: where its bytes lie. -/
def Pdu.PD.cells (p : Pdu.PD) (dv : Value) : Array Value := #[.int .i64 p.op, .bool p.imm, .int .i64 p.flags, .int .i64 p.info, .int .i64 p.wide, .int .i64 p.short, .int .i64 p.tag, .int .i64 p.word, .int .i64 p.num, .int .i64 p.exp,
  .int .u8 (p.tb 0 : Nat), .int .u8 (p.tb 1 : Nat), .int .u8 (p.tb 2 : Nat), .int .u8 (p.tb 3 : Nat), .int .u8 (p.tb 4 : Nat), .int .u8 (p.tb 5 : Nat), .int .u8 (p.tb 6 : Nat), .int .u8 (p.tb 7 : Nat),
  .int .u8 (p.tb 8 : Nat), .int .u8 (p.tb 9 : Nat), .int .u8 (p.tb 10 : Nat), .int .u8 (p.tb 11 : Nat), .int .u8 (p.tb 12 : Nat), .int .u8 (p.tb 13 : Nat), .int .u8 (p.tb 14 : Nat), .int .u8 (p.tb 15 : Nat), dv]
def i64s (n : Int) : Prop := -9223372036854775808 ≤ n ∧ n ≤ 9223372036854775807
/-- A PDU that a program can hold. -/
structure Pdu.PD.Ok (p : Pdu.PD) : Prop where
  op : i64s p.op
  flags : i64s p.flags
  info : i64s p.info
  wide : i64s p.wide
  short : i64s p.short
  tag : i64s p.tag
  word : i64s p.word
  num : i64s p.num
  exp : i64s p.exp
  tail : p.tail.length = 16
  bytes : Crc.Bytes p.tail
  data : Crc.Bytes p.data

set_option maxRecDepth 100000 in
set_option maxHeartbeats 6400000 in
theorem may_any (p : Pdu.PD) (dv : Value) (w : World) (hp : p.Ok) (h : BytesAt w dv p.data) :
    Calls Try.prog 21 #[.agg (p.cells dv)] w fun e w' => e = .returned (.bool (Pdu.may p)) ∧ Below w.heap.size w w' := by
  obtain ⟨da, dc, rfl, _⟩ := h.form
  have HP := Lib.hid hp; clear hp
  unfold Pdu.PD.cells
  go_enter Try.func21, Try.ntmps21
  obtain ⟨W, hW⟩ : ∃ W, W = w.alloc (.cells (p.cells (.slice da p.data.length dc)) 25) := ⟨_, rfl⟩
  have HBW := Lib.hid (show Below w.heap.size w W by rw [hW]; exact allocBelow w _)
  have hc : ∀ j, W.cell? ⟨w.heap.size, j, none⟩ = (p.cells (.slice da p.data.length dc))[j]? := fun j => by rw [hW]; exact World.cell?_alloc_new _ _ _ _
  unfold Pdu.PD.cells at hc
  go_upto_region 1 with fail
  change Code.wp _ _ _ _ (w.alloc (.cells (p.cells (.slice da p.data.length dc)) 25))
  rw [← hW]
  clear hW h
  have HM := Lib.hid (show Pdu.may p = (Pdu.fits p.tag 4 && Pdu.fits p.word 4 && Pdu.fits p.num 4 && Pdu.fits p.exp 4 && decide (0 ≤ p.op) && decide (p.op ≤ 63) && Pdu.fits p.flags 1 && Pdu.fits p.info 2 && Pdu.fits p.wide 6 && Pdu.fits p.short 2 && decide ((p.data.length : Int) ≤ 1024)) from by
    unfold Pdu.may
    congr 1
    simp only [decide_eq_decide]
    omega)
  have H1 := Lib.hid (show Calls Try.prog 31 #[.int .i64 p.tag, .int .i64 4] W (fun e w' => e = .returned (.bool (Pdu.fits p.tag 4)) ∧ W = w') from fits_any p.tag 4 W (by omega) HP.out.tag)
  have H2 := Lib.hid (show Calls Try.prog 31 #[.int .i64 p.word, .int .i64 4] W (fun e w' => e = .returned (.bool (Pdu.fits p.word 4)) ∧ W = w') from fits_any p.word 4 W (by omega) HP.out.word)
  have H3 := Lib.hid (show Calls Try.prog 31 #[.int .i64 p.num, .int .i64 4] W (fun e w' => e = .returned (.bool (Pdu.fits p.num 4)) ∧ W = w') from fits_any p.num 4 W (by omega) HP.out.num)
  have H4 := Lib.hid (show Calls Try.prog 31 #[.int .i64 p.exp, .int .i64 4] W (fun e w' => e = .returned (.bool (Pdu.fits p.exp 4)) ∧ W = w') from fits_any p.exp 4 W (by omega) HP.out.exp)
  have H7 := Lib.hid (show Calls Try.prog 31 #[.int .i64 p.flags, .int .i64 1] W (fun e w' => e = .returned (.bool (Pdu.fits p.flags 1)) ∧ W = w') from fits_any p.flags 1 W (by omega) HP.out.flags)
  have H8 := Lib.hid (show Calls Try.prog 31 #[.int .i64 p.info, .int .i64 2] W (fun e w' => e = .returned (.bool (Pdu.fits p.info 2)) ∧ W = w') from fits_any p.info 2 W (by omega) HP.out.info)
  have H9 := Lib.hid (show Calls Try.prog 31 #[.int .i64 p.wide, .int .i64 6] W (fun e w' => e = .returned (.bool (Pdu.fits p.wide 6)) ∧ W = w') from fits_any p.wide 6 W (by omega) HP.out.wide)
  have H10 := Lib.hid (show Calls Try.prog 31 #[.int .i64 p.short, .int .i64 2] W (fun e w' => e = .returned (.bool (Pdu.fits p.short 2)) ∧ W = w') from fits_any p.short 2 W (by omega) HP.out.short)
  generalize hb1 : Pdu.fits p.tag 4 = b1 at *
  generalize hb2 : Pdu.fits p.word 4 = b2 at *
  generalize hb3 : Pdu.fits p.num 4 = b3 at *
  generalize hb4 : Pdu.fits p.exp 4 = b4 at *
  generalize hb7 : Pdu.fits p.flags 1 = b7 at *
  generalize hb8 : Pdu.fits p.info 2 = b8 at *
  generalize hb9 : Pdu.fits p.wide 6 = b9 at *
  generalize hb10 : Pdu.fits p.short 2 = b10 at *
  generalize hb5 : decide (0 ≤ p.op) = b5 at *
  generalize hb6 : decide (p.op ≤ 63) = b6 at *
  generalize hb11 : decide ((p.data.length : Int) ≤ 1024) = b11 at *
  clear hb1 hb2 hb3 hb4 hb7 hb8 hb9 hb10
  cases b1 with
  | false =>
    go_wp2_with fail
    refine H1.out.mono ?_
    rintro e w' ⟨rfl, rfl⟩
    go_wp2_with fail
    go_ret
    have e1 : Pdu.may p = false := by rw [HM.out]; rfl
    exact ⟨by rw [e1]; rfl, HBW.out⟩
  | true =>
    cases b2 with
    | false =>
      go_wp2_with fail
      refine H1.out.mono ?_
      rintro e w' ⟨rfl, rfl⟩
      go_wp2_with fail
      refine H2.out.mono ?_
      rintro e w' ⟨rfl, rfl⟩
      go_wp2_with fail
      go_ret
      have e1 : Pdu.may p = false := by rw [HM.out]; rfl
      exact ⟨by rw [e1]; rfl, HBW.out⟩
    | true =>
      cases b3 with
      | false =>
        go_wp2_with fail
        refine H1.out.mono ?_
        rintro e w' ⟨rfl, rfl⟩
        go_wp2_with fail
        refine H2.out.mono ?_
        rintro e w' ⟨rfl, rfl⟩
        go_wp2_with fail
        refine H3.out.mono ?_
        rintro e w' ⟨rfl, rfl⟩
        go_wp2_with fail
        go_ret
        have e1 : Pdu.may p = false := by rw [HM.out]; rfl
        exact ⟨by rw [e1]; rfl, HBW.out⟩
      | true =>
        cases b4 with
        | false =>
          go_wp2_with fail
          refine H1.out.mono ?_
          rintro e w' ⟨rfl, rfl⟩
          go_wp2_with fail
          refine H2.out.mono ?_
          rintro e w' ⟨rfl, rfl⟩
          go_wp2_with fail
          refine H3.out.mono ?_
          rintro e w' ⟨rfl, rfl⟩
          go_wp2_with fail
          refine H4.out.mono ?_
          rintro e w' ⟨rfl, rfl⟩
          go_wp2_with fail
          go_ret
          have e1 : Pdu.may p = false := by rw [HM.out]; rfl
          exact ⟨by rw [e1]; rfl, HBW.out⟩
        | true =>
          cases b5 with
          | false =>
            go_wp2_with fail
            refine H1.out.mono ?_
            rintro e w' ⟨rfl, rfl⟩
            go_wp2_with fail
            refine H2.out.mono ?_
            rintro e w' ⟨rfl, rfl⟩
            go_wp2_with fail
            refine H3.out.mono ?_
            rintro e w' ⟨rfl, rfl⟩
            go_wp2_with fail
            refine H4.out.mono ?_
            rintro e w' ⟨rfl, rfl⟩
            go_wp2_with fail
            go_ret
            have e1 : Pdu.may p = false := by rw [HM.out]; rfl
            exact ⟨by rw [e1]; rfl, HBW.out⟩
          | true =>
            cases b6 with
            | false =>
              go_wp2_with fail
              refine H1.out.mono ?_
              rintro e w' ⟨rfl, rfl⟩
              go_wp2_with fail
              refine H2.out.mono ?_
              rintro e w' ⟨rfl, rfl⟩
              go_wp2_with fail
              refine H3.out.mono ?_
              rintro e w' ⟨rfl, rfl⟩
              go_wp2_with fail
              refine H4.out.mono ?_
              rintro e w' ⟨rfl, rfl⟩
              go_wp2_with fail
              go_ret
              have e1 : Pdu.may p = false := by rw [HM.out]; rfl
              exact ⟨by rw [e1]; rfl, HBW.out⟩
            | true =>
              cases b7 with
              | false =>
                go_wp2_with fail
                refine H1.out.mono ?_
                rintro e w' ⟨rfl, rfl⟩
                go_wp2_with fail
                refine H2.out.mono ?_
                rintro e w' ⟨rfl, rfl⟩
                go_wp2_with fail
                refine H3.out.mono ?_
                rintro e w' ⟨rfl, rfl⟩
                go_wp2_with fail
                refine H4.out.mono ?_
                rintro e w' ⟨rfl, rfl⟩
                go_wp2_with fail
                refine H7.out.mono ?_
                rintro e w' ⟨rfl, rfl⟩
                go_wp2_with fail
                go_ret
                have e1 : Pdu.may p = false := by rw [HM.out]; rfl
                exact ⟨by rw [e1]; rfl, HBW.out⟩
              | true =>
                cases b8 with
                | false =>
                  go_wp2_with fail
                  refine H1.out.mono ?_
                  rintro e w' ⟨rfl, rfl⟩
                  go_wp2_with fail
                  refine H2.out.mono ?_
                  rintro e w' ⟨rfl, rfl⟩
                  go_wp2_with fail
                  refine H3.out.mono ?_
                  rintro e w' ⟨rfl, rfl⟩
                  go_wp2_with fail
                  refine H4.out.mono ?_
                  rintro e w' ⟨rfl, rfl⟩
                  go_wp2_with fail
                  refine H7.out.mono ?_
                  rintro e w' ⟨rfl, rfl⟩
                  go_wp2_with fail
                  refine H8.out.mono ?_
                  rintro e w' ⟨rfl, rfl⟩
                  go_wp2_with fail
                  go_ret
                  have e1 : Pdu.may p = false := by rw [HM.out]; rfl
                  exact ⟨by rw [e1]; rfl, HBW.out⟩
                | true =>
                  cases b9 with
                  | false =>
                    go_wp2_with fail
                    refine H1.out.mono ?_
                    rintro e w' ⟨rfl, rfl⟩
                    go_wp2_with fail
                    refine H2.out.mono ?_
                    rintro e w' ⟨rfl, rfl⟩
                    go_wp2_with fail
                    refine H3.out.mono ?_
                    rintro e w' ⟨rfl, rfl⟩
                    go_wp2_with fail
                    refine H4.out.mono ?_
                    rintro e w' ⟨rfl, rfl⟩
                    go_wp2_with fail
                    refine H7.out.mono ?_
                    rintro e w' ⟨rfl, rfl⟩
                    go_wp2_with fail
                    refine H8.out.mono ?_
                    rintro e w' ⟨rfl, rfl⟩
                    go_wp2_with fail
                    refine H9.out.mono ?_
                    rintro e w' ⟨rfl, rfl⟩
                    go_wp2_with fail
                    go_ret
                    have e1 : Pdu.may p = false := by rw [HM.out]; rfl
                    exact ⟨by rw [e1]; rfl, HBW.out⟩
                  | true =>
                    cases b10 with
                    | false =>
                      go_wp2_with fail
                      refine H1.out.mono ?_
                      rintro e w' ⟨rfl, rfl⟩
                      go_wp2_with fail
                      refine H2.out.mono ?_
                      rintro e w' ⟨rfl, rfl⟩
                      go_wp2_with fail
                      refine H3.out.mono ?_
                      rintro e w' ⟨rfl, rfl⟩
                      go_wp2_with fail
                      refine H4.out.mono ?_
                      rintro e w' ⟨rfl, rfl⟩
                      go_wp2_with fail
                      refine H7.out.mono ?_
                      rintro e w' ⟨rfl, rfl⟩
                      go_wp2_with fail
                      refine H8.out.mono ?_
                      rintro e w' ⟨rfl, rfl⟩
                      go_wp2_with fail
                      refine H9.out.mono ?_
                      rintro e w' ⟨rfl, rfl⟩
                      go_wp2_with fail
                      refine H10.out.mono ?_
                      rintro e w' ⟨rfl, rfl⟩
                      go_wp2_with fail
                      go_ret
                      have e1 : Pdu.may p = false := by rw [HM.out]; rfl
                      exact ⟨by rw [e1]; rfl, HBW.out⟩
                    | true =>
                      cases b11 with
                      | false =>
                        go_wp2_with fail
                        refine H1.out.mono ?_
                        rintro e w' ⟨rfl, rfl⟩
                        go_wp2_with fail
                        refine H2.out.mono ?_
                        rintro e w' ⟨rfl, rfl⟩
                        go_wp2_with fail
                        refine H3.out.mono ?_
                        rintro e w' ⟨rfl, rfl⟩
                        go_wp2_with fail
                        refine H4.out.mono ?_
                        rintro e w' ⟨rfl, rfl⟩
                        go_wp2_with fail
                        refine H7.out.mono ?_
                        rintro e w' ⟨rfl, rfl⟩
                        go_wp2_with fail
                        refine H8.out.mono ?_
                        rintro e w' ⟨rfl, rfl⟩
                        go_wp2_with fail
                        refine H9.out.mono ?_
                        rintro e w' ⟨rfl, rfl⟩
                        go_wp2_with fail
                        refine H10.out.mono ?_
                        rintro e w' ⟨rfl, rfl⟩
                        go_wp2_with fail
                        go_ret
                        have e1 : Pdu.may p = false := by rw [HM.out]; rfl
                        exact ⟨by rw [e1]; rfl, HBW.out⟩
                      | true =>
                        go_wp2_with fail
                        refine H1.out.mono ?_
                        rintro e w' ⟨rfl, rfl⟩
                        go_wp2_with fail
                        refine H2.out.mono ?_
                        rintro e w' ⟨rfl, rfl⟩
                        go_wp2_with fail
                        refine H3.out.mono ?_
                        rintro e w' ⟨rfl, rfl⟩
                        go_wp2_with fail
                        refine H4.out.mono ?_
                        rintro e w' ⟨rfl, rfl⟩
                        go_wp2_with fail
                        refine H7.out.mono ?_
                        rintro e w' ⟨rfl, rfl⟩
                        go_wp2_with fail
                        refine H8.out.mono ?_
                        rintro e w' ⟨rfl, rfl⟩
                        go_wp2_with fail
                        refine H9.out.mono ?_
                        rintro e w' ⟨rfl, rfl⟩
                        go_wp2_with fail
                        refine H10.out.mono ?_
                        rintro e w' ⟨rfl, rfl⟩
                        go_wp2_with fail
                        go_ret
                        have e1 : Pdu.may p = true := by rw [HM.out]; rfl
                        exact ⟨by rw [e1]; rfl, HBW.out⟩
end Go.Proofs.Ytodmpchnjakchaa
