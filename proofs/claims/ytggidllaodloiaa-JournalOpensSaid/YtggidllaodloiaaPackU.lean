/-
  LAYER 2: the document's writer; things that are put.
-/
import Derived.Test.YtggidllaodloiaaPackM
import Derived.Test.YtggidllaodloiaaOpen
import Derived.WalkLawsBesides
import Derived.Deep.CutBlock
import Derived.Deep.DeepCutAuto
namespace Go.Proofs.Ytggidllaodloiaa
open Go Go.RowKit

/-- Bytes that were appended to what lay at ao0: nothing else has turned. -/
structure SlApp (w0 : World) (ao0 : Option Addr) (w : World) (ao : Option Addr) (n cap : Nat) (bs : List UInt8) : Prop where
  own : Own w 1 ao n cap (bs.map cb)
  chg : Chg (fun k => ∃ a, ao0 = some a ∧ a.block = k) w0 w
  at_ : ∀ a', ao = some a' → ao0 = some a' ∨ w0.heap.size ≤ a'.block
theorem SlApp.more {w0 w w' : World} {ao0 ao ao' : Option Addr} {n n' cap cap' : Nat} {bs bs' : List UInt8} (h : SlApp w0 ao0 w ao n cap bs) (ho : Own w' 1 ao' n' cap' (bs'.map cb)) (hc : Chg (fun k => ∃ a, ao = some a ∧ a.block = k) w w') (hx : ∀ a', ao' = some a' → ao = some a' ∨ w.heap.size ≤ a'.block) : SlApp w0 ao0 w' ao' n' cap' bs' := by
  refine ⟨ho, h.chg.trans hc ?_, ?_⟩
  · rintro i hi ⟨a, ha, rfl⟩
    rcases h.at_ a ha with e | e
    · exact ⟨a, e, rfl⟩
    · omega
  · intro a' ha
    rcases hx a' ha with e | e
    · exact h.at_ a' e
    · exact .inr (Nat.le_trans h.chg.size e)
theorem SlApp.alloc {w0 w : World} {ao0 ao : Option Addr} {n cap : Nat} {bs : List UInt8} (h : SlApp w0 ao0 w ao n cap bs) (o : Obj) : SlApp w0 ao0 (w.alloc o) ao n cap bs :=
  ⟨h.own.keep ((Chg.refl (fun _ => False) _).alloc o) (fun _ _ h => h), h.chg.alloc o, h.at_⟩
/-- Bytes that lie elsewhere are as they were. -/
theorem SlApp.other {w0 w : World} {ao0 ao bo : Option Addr} {n cap : Nat} {bs ys : List UInt8} (h : SlApp w0 ao0 w ao n cap bs) (hy : Bts w0 bo ys) (hd : ys ≠ [] → ∀ a, bo = some a → ∀ b, ao0 = some b → b.block ≠ a.block) : Bts w bo ys := by
  by_cases hz : ys = []
  · rw [hz]; exact Bts.nil _ _
  · exact h.chg.row hy (by rintro a ha ⟨b, hb, hab⟩; exact hd hz a ha b hb hab)
theorem put_any (ao : Option Addr) (n cap : Nat) (bs : List UInt8) (N size : Nat) (w : World) (h : Own w 1 ao n cap (bs.map cb)) (hn : n ≤ 70368744177664) (hN : N < 18446744073709551616) (hs : size ≤ 8) :
    Calls Try.prog 26 #[.slice ao n cap, .int .u64 (N : Int), .int .i64 (size : Int)] w fun e w' => ∃ ao' cap', e = .returned (.slice ao' (n + size) cap') ∧ SlApp w ao w' ao' (n + size) cap' (bs ++ be size N) := by
  have H := Lib.hid h
  clear h
  go_enter Try.func26, Try.ntmps26
  go_wp2
  go_loopg [0, 7] size (fun g b i wr => ∃ (k : Nat) (ro : Option Addr) (rc : Nat), g + k = size ∧ b = .slice ro (n + k) rc ∧ i = .int .i64 ((size : Int) - 1 - k) ∧ SlApp w ao wr ro (n + k) rc (bs ++ (be size N).take k))
  case atStart => exact ⟨0, ao, cap, by omega, rfl, by go_num, by simpa using ⟨H.out, Chg.refl _ _, fun _ h => .inl h⟩⟩
  case round =>
    obtain ⟨k, ro, rc, hk, rfl, rfl, hsl⟩ := hrel
    have HS := Lib.hid hsl
    clear hsl
    by_cases hlt : k < size
    · obtain ⟨I, hI⟩ : ∃ I : Nat, I + k + 1 = size := ⟨size - 1 - k, by omega⟩
      have e1 : (size : Int) - 1 - k = (I : Int) := by omega
      rw [e1]
      go_wp2
      obtain ⟨G, rfl⟩ : ∃ G, G = gk := ⟨_, rfl⟩
      obtain ⟨wo, rfl⟩ : ∃ wo, wo = wr := ⟨_, rfl⟩
      go_loopg [8, 9] I (fun g m j wr => wr = wo ∧ ∃ q : Nat, g + q = I ∧ j = .int .i64 q ∧ m = .int .u64 ((N / 256 ^ q : Nat) : Int))
      case atStart => exact ⟨rfl, 0, by omega, rfl, by simp⟩
      case round =>
        obtain ⟨rfl, q, hq, rfl, rfl⟩ := hrel
        have hqN : N / 256 ^ q < 18446744073709551616 := Nat.lt_of_le_of_lt (Nat.div_le_self _ _) hN
        have HQ1 := Lib.hid (show N / 256 ^ (q + 1) = N / 256 ^ q / 256 by rw [Nat.pow_succ, Nat.div_div_eq_div_mul])
        obtain ⟨X, hX⟩ : ∃ X, X = N / 256 ^ q := ⟨_, rfl⟩
        rw [← hX] at HQ1 hqN ⊢
        by_cases hlt2 : q < I
        · clear hX
          go_wp2
          go_roundg (gk - 1)
          case measure => omega
          case rel =>
            refine ⟨rfl, q + 1, by omega, by go_num, ?_⟩
            rw [HQ1.out]; congr 1
        · have hqI : q = I := by omega
          subst hqI
          have HX := Lib.hid hX
          clear hX HQ1
          have hbt : Bts (wr.alloc (.cells #[.int .u8 ((X : Int) % 256)] 5)) (some ⟨wr.heap.size, 0, none⟩) [UInt8.ofNat X] := Bts.alloc wr _ _ _ _ (by simp only [List.map_cons, List.map_nil]; rw [show cb (UInt8.ofNat X) = .int .u8 ((X : Int) % 256) by simp only [cb, UInt8.toNat_ofNat']; congr 1])
          have HB := Lib.hid (And.intro (HS.out.alloc (.cells #[.int .u8 ((X : Int) % 256)] 5)) hbt)
          clear hbt
          go_wp2_with (at_builtin; refine wpList_append' rfl (.tmp 24) (.tmp 28) el_u8 rfl rfl rfl HB.out.1.own (m := 1) (news := [UInt8.ofNat X].map cb) rfl HB.out.2 (one_cb _) (by unfold maxLen; omega) (by omega) ?_; intro xo xc w2 hx hch _ hx2; have HX2 := Lib.hid (And.intro hx (And.intro hch hx2)); clear hx hch hx2)
          go_roundg (G - 1)
          case measure => omega
          case rel =>
            refine ⟨k + 1, xo, xc, by omega, by go_num, by go_num, ?_⟩
            have hx := HX2.out.1
            rw [← List.map_append] at hx
            have e2 : bs ++ List.take k (be size N) ++ [UInt8.ofNat X] = bs ++ List.take (k + 1) (be size N) := by
              rw [List.append_assoc]
              congr 1
              rw [List.take_add_one, be_get size N k (by omega), HX.out, show size - 1 - k = q by omega]
              rfl
            rw [e2] at hx
            exact HB.out.1.more hx HX2.out.2.1 HX2.out.2.2
    · go_wp2
      go_ret
      have hks : k = size := by omega
      subst hks
      refine ⟨ro, rc, rfl, ?_⟩
      have := HS.out
      rwa [List.take_of_length_le (by rw [be_length]; exact Nat.le_refl _)] at this
end Go.Proofs.Ytggidllaodloiaa
