/-
  LAYER 2: 'put', walked.
-/
import Derived.Test.YtggidllaodloiaaPackT
namespace Go.Proofs.Ytggidllaodloiaa
open Go Go.RowKit

/-- Behind a writer's call the thing's box is as it was. -/
theorem put_next {w0 wa w1 : World} {p T : Nat} {F : List Nat} {bo : Option Addr} {n cap : Nat} {L bw : List UInt8} {o : Obj} (h : Both w0 wa p F bo n cap L L) (hw : wa.heap[T]? = some o) (hT : ∀ k ∈ F, k ≠ T) (hn : WrNow wa p F bw w1) : ∃ F2, Both w0 w1 p F2 bo n cap bw L ∧ w1.heap[T]? = some o := by
  obtain ⟨F2, hB⟩ := h.wrote hn
  obtain ⟨_, _, hc, _⟩ := hn
  exact ⟨F2, hB, hc.heap hw (fun hk => hT T hk rfl)⟩
theorem u32_anyI (p : Nat) (bs : List UInt8) (F : List Nat) (n : Nat) (V : Int) (w : World) (h : WrAt w p bs F) (hV : V = (n : Int)) (hn : n < 4294967296) (hb : bs.length ≤ 70368744177664) :
    Calls Try.prog 31 #[.pointer (some ⟨p, 0, none⟩), .int .u32 V] w fun e w' => e = .returned (.tuple #[]) ∧ WrNow w p F (bs ++ be 4 n) w' := by
  subst hV; exact u32_any p bs F n w h hn hb
theorem put_anyI (ao : Option Addr) (n cap : Nat) (bs : List UInt8) (N size : Nat) (V S : Int) (w : World) (h : Own w 1 ao n cap (bs.map cb)) (hn : n ≤ 70368744177664) (hV : V = (N : Int)) (hS : S = (size : Int)) (hN : N < 18446744073709551616) (hs : size ≤ 8) :
    Calls Try.prog 26 #[.slice ao n cap, .int .u64 V, .int .i64 S] w fun e w' => ∃ ao' cap', e = .returned (.slice ao' (n + size) cap') ∧ SlApp w ao w' ao' (n + size) cap' (bs ++ be size N) := by
  subst hV; subst hS; exact put_any ao n cap bs N size w h hn hN hs
end Go.Proofs.Ytggidllaodloiaa
