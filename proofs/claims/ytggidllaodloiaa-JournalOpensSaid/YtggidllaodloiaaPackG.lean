/-
  LAYER 2: Unframe.
-/
import Derived.Test.YtggidllaodloiaaPackF
import Derived.Test.YtggidllaodloiaaPackK
import Derived.Deep.RegionHeld3
import Derived.OwnWalk
namespace Go.Proofs.Ytggidllaodloiaa
open Go Go.RowKit

theorem unframe_short (ao : Option Addr) (n c : Nat) (w : World) (hn : n < 8) :
    Calls Try.prog 21 #[.slice ao n c] w fun e w' => e = .returned (.tuple #[.slice none 0 0, .slice none 0 0, .int .i64 4]) ∧ w = w' := by
  go_enter Try.func21, Try.ntmps21
  go_wp2
  go_ret3
  exact ⟨rfl, rfl⟩
set_option maxHeartbeats 4000000 in
set_option maxRecDepth 100000 in
theorem unframe_any (ao : Option Addr) (n c : Nat) (xs rest : List UInt8) (w : World) (hl : (frame xs ++ rest).length = n) (hx : xs.length ≤ 4096) (hn : n ≤ 1000000) (hb : Bts w ao (frame xs ++ rest)) (hnc : n ≤ c) (hm : c ≤ maxLen) :
    Calls Try.prog 21 #[.slice ao n c] w fun e w' => ∃ bo bc ro rc, e = .returned (.tuple #[.slice bo xs.length bc, .slice ro rest.length rc, .int .i64 0]) ∧ Below w.heap.size w w' ∧ Own w' 1 bo xs.length bc (xs.map cb) ∧ Own w' 1 ro rest.length rc (rest.map cb) ∧
      (∀ a, bo = some a → w.heap.size ≤ a.block) ∧ (∀ a, ro = some a → w.heap.size ≤ a.block) := by
  have hcr := (crc xs).isLt
  have hfl := frame_len xs
  have hn8 : 8 ≤ n := by rw [← hl, List.length_append, hfl]; omega
  have hrl : xs.length + rest.length + 8 = n := by rw [← hl, List.length_append, hfl]; omega
  have hap : frame xs ++ rest = be 4 xs.length ++ (be 4 (crc xs).toNat ++ (xs ++ rest)) := by unfold frame; simp only [List.append_assoc]
  have hbel : ∀ (o : Obj), Below w.heap.size w (w.alloc o) := fun o => (Below.refl _ w).alloc (Nat.le_refl _) o
  have h0 : RdrAt (w.alloc (.cells #[.slice ao n c] 66)) w.heap.size (ao.map (·.block)) (be 4 xs.length ++ (be 4 (crc xs).toNat ++ (xs ++ rest))) := by
    rw [← hap]
    refine ⟨ao, c, ?_, hb.below (hbel _), by omega, hm, fun hz a ha => ?_⟩
    · rw [hl]; exact heap_top _ _
    · subst ha
      exact ⟨rfl, by have := bts_lt hb hz a rfl; omega⟩
  have H0 := Lib.hid h0
  have HL := Lib.hid (And.intro (show (be 4 (crc xs).toNat ++ (xs ++ rest)).length ≤ 70368744177664 by simp [be_length]; omega) (And.intro (show (xs ++ rest).length ≤ 70368744177664 by simp; omega) (And.intro (show xs.length ≤ (xs ++ rest).length by simp) (show (xs ++ rest).length ≤ 140737488351232 by simp; omega))))
  have HT := Lib.hid (And.intro (show (xs ++ rest).take xs.length = xs by simp) (show (xs ++ rest).drop xs.length = rest by simp))
  have hxl : xs.length < 4294967296 := by omega
  have hlen2 : ((xs ++ rest).length : Int) = (xs.length : Int) + (rest.length : Int) := by simp
  have hu1 := IntWalk.u64_in ((xs.length : Int) + (rest.length : Int)) (by omega)
  have hgt : ¬ ((xs.length : Int) + (rest.length : Int) < (xs.length : Int)) := by omega
  have hn8i : ¬ (n : Int) < 8 := by omega
  clear h0 hb hap hbel hfl hl
  go_enter Try.func21, Try.ntmps21
  go_wp2_with (first
    | (go_at_call 28; (with_reducible refine (ru32_put w.heap.size _ xs.length _ _ H0.out hxl HL.out.1).mono ?_); rintro e1 w1 ⟨rfl, h1, h2⟩; have H1 := Lib.hid (And.intro h1 h2); clear h1 h2)
    | (go_at_call 28; (with_reducible refine (ru32_put w.heap.size _ (crc xs).toNat _ _ H1.out.1 hcr HL.out.2.1).mono ?_); rintro e2 w2 ⟨rfl, h1, h2⟩; have hz := h1; obtain ⟨ro0, rc0, hz1, -⟩ := hz; have hz2 := heap_cell hz1 0; simp at hz2; have H2 := Lib.hid (And.intro h1 h2); clear h1 h2 hz1)
    | (go_at_call 29; (with_reducible refine (take_any w.heap.size _ (xs ++ rest) xs.length _ H2.out.1 HL.out.2.2.1 HL.out.2.2.2).mono ?_); rintro e3 w3 ⟨eo, tc, rfl, k1, _, _, k4, k5⟩; rw [HT.out.1] at k1; rw [HT.out.2] at k4; obtain ⟨so, sc, g1, g2, _⟩ := k4; have y0 := heap_cell g1 0; simp at y0; have H3 := Lib.hid (And.intro k1 (And.intro g1 (And.intro g2 k5))); clear k1 k5 g1 g2)
    | (go_at_call 30; (with_reducible refine (sum_any' eo _ tc xs _ rfl (by omega) H3.out.1).mono ?_); rintro e4 w4 ⟨rfl, rfl⟩))
  have d0 : w3.drew.cell? ⟨w.heap.size, 0, none⟩ = some (.slice so rest.length sc) := y0
  have hx7 : xs.length ≤ 140737488351232 := by omega
  have hr7 : rest.length ≤ 140737488351232 := by omega
  have HCX := Lib.hid (fun w1 (hw : Below w3.drew.heap.size w3.drew w1) => clone_any eo _ tc xs w1 rfl hx7 (H3.out.1.drew.below hw))
  have HCR := Lib.hid (fun w1 (hw : Below w3.drew.heap.size w3.drew w1) => clone_any so _ sc rest w1 rfl hr7 (H3.out.2.2.1.drew.below hw))
  go_region_with (first
    | (go_at_call 24; (with_reducible refine (HCX.out _ (Below.refl _ _)).mono ?_); rintro e5 w5 ⟨bo, bc, rfl, m1, m2, m3⟩; have q0 := heap_cell ((Chg.of_below m1 (fun _ => False)).heap H3.out.2.1 (fun h => h)) 0; simp at q0; have H5 := Lib.hid (And.intro m1 (And.intro m2 m3)); clear m1 m2 m3)
    | (go_at_call 24; (with_reducible refine (HCR.out _ H5.out.1).mono ?_); rintro e6 w6 ⟨ro, rc, rfl, m1, m2, m3⟩; have H6 := Lib.hid (And.intro m1 (And.intro m2 m3)); clear m1 m2 m3))
  all_goals (
    go_wp2
    go_ret3
    have hb0 := (Below.refl _ w).alloc (Nat.le_refl _) (.cells #[.slice ao n c] 66)
    have b1 := hb0.trans (H1.out.2.below hb0.size (fun k hk => by omega))
    have b2 := b1.trans (H2.out.2.below b1.size (fun k hk => by omega))
    have b3 := (b2.trans (H3.out.2.2.2.below b2.size (fun k hk => by omega))).drew
    have b5 := b3.trans (H5.out.1.mono b3.size)
    exact ⟨bo, bc, ro, rc, rfl, b5.trans (H6.out.1.mono b5.size), H5.out.2.1.keep (Chg.of_below H6.out.1 (fun _ => False)) (fun _ _ h => h), H6.out.2.1, fun a ha => Nat.le_trans b3.size (H5.out.2.2 a ha), fun a ha => Nat.le_trans b5.size (H6.out.2.2 a ha)⟩)
end Go.Proofs.Ytggidllaodloiaa
