/-
  A slice of bytes that came in has room for what it holds.
-/
import Derived.Test.YtodmpchnjakchaaPduArgs
namespace Go.Proofs.Ytodmpchnjakchaa
open Go.RowKit Go.ChangeShapes Go.WideShapes Go.Deep

theorem bytes_room {H : Type} {enc : TypeId × Value → H} {W : World} {fuel : Nat} {a : Option Addr} {n c : Nat} {x : DataW H × List MemPlace} (h : DataW.trod enc Try.prog W 0 (fun _ => true) true fuel 23 [.slice a n c] = some x) : n ≤ c := by
  rcases open_ints Try.underlying23 Try.underlying5 (by kernel_rfl) h with ⟨hcs, _⟩ | ⟨a', len, cap, zs, hcs, _, hl, _⟩
  · injection hcs with hcs
    injection hcs with e1 e2 e3
    omega
  · injection hcs with hcs
    injection hcs with e1 e2 e3
    omega
end Go.Proofs.Ytodmpchnjakchaa
