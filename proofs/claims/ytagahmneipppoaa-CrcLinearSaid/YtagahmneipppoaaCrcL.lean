/-
  THE LAW CrcLinear OF LAYER 1, WALKED.
-/
import Derived.Test.YtagahmneipppoaaCrc
import Derived.WalkLawsBesides
import Derived.Deep.QuietTactic
import Derived.BigQuiet
namespace Go.Proofs.Ytagahmneipppoaa
open Go Go.RowKit Go.WideShapes

def lin (n : Nat) (xs ys zs : List UInt8) : List UInt8 := List.zipWith (· ^^^ ·) (List.zipWith (· ^^^ ·) (xs.take n) (ys.take n)) (zs.take n)
theorem lin_done {w : World} {n k : Nat} {ao : Option Addr} {xs ys zs : List UInt8} {l : List Value} (hlen : l.length = n * 1) (hl : ∀ j (hj : j < n), j < k → (h1 : j < xs.length) → (h2 : j < ys.length) → (h3 : j < zs.length) → l[j]? = some (cb (xs[j] ^^^ ys[j] ^^^ zs[j]))) (hk : n ≤ k)
    (h1 : n ≤ xs.length) (h2 : n ≤ ys.length) (h3 : n ≤ zs.length) (hown : Own w 1 ao n n l) : (lin n xs ys zs).length = n ∧ Bts w ao (lin n xs ys zs) := by
  have e : l = (lin n xs ys zs).map cb := by
    apply List.ext_getElem?
    intro j
    by_cases hj : j < n
    · rw [hl j hj (by omega) (by omega) (by omega) (by omega)]
      simp [lin, List.getElem?_zipWith, List.getElem?_take, hj, List.getElem?_eq_getElem (show j < xs.length by omega), List.getElem?_eq_getElem (show j < ys.length by omega), List.getElem?_eq_getElem (show j < zs.length by omega)]
    · rw [List.getElem?_eq_none (by omega), List.getElem?_eq_none (by simp [lin]; omega)]
  refine ⟨by simp [lin]; omega, ?_⟩
  unfold Bts; rw [← e]; exact hown.row
theorem crcLinear_walk (ao bo co : Option Addr) (c d e n : Nat) (xs ys zs : List UInt8) (w : World) (ha : Bts w ao xs) (hb : Bts w bo ys) (hc : Bts w co zs)
    (h1 : n ≤ xs.length) (h2 : n ≤ ys.length) (h3 : n ≤ zs.length) (hx : xs.length ≤ c) (hy : ys.length ≤ d) (hz : zs.length ≤ e)
    (hmin : (if (zs.length : Int) < (if ys.length < xs.length then (ys.length : Int) else (xs.length : Int)) then (zs.length : Int) else if ys.length < xs.length then (ys.length : Int) else (xs.length : Int)) = (n : Int)) :
    Calls Try.prog 6 #[.slice ao xs.length c, .slice bo ys.length d, .slice co zs.length e] w fun e w' => e = .returned (.bool true) ∧ Below w.heap.size w w' := by
  have HA := Lib.hid ha; clear ha
  have HB := Lib.hid hb; clear hb
  have HC := Lib.hid hc; clear hc
  by_cases hn : 3000 < n
  · go_enter Try.func6, Try.ntmps6
    go_wp2_with (first
      | (go_at_call 7; refine (awake _).mono ?_; rintro e w1 ⟨rfl, hb⟩; have HB1 := Lib.hid hb; clear hb))
    go_ret
    exact ⟨rfl, HB1.out⟩
  · go_enter Try.func6, Try.ntmps6
    go_wp2_with (first
      | (go_at_call 7; refine (awake _).mono ?_; rintro e w1 ⟨rfl, hb⟩; have HB1 := Lib.hid hb; clear hb)
      | (at_make; refine wpList_make' rfl (.tmp 21) (.tmp 21) el_u8 rfl rfl rfl rfl rfl (Nat.le_refl _) (by omega) (by unfold maxLen; omega) ?_; intro ho; simp only [Nat.mul_one] at ho; have HO := Lib.hid ho; clear ho))
    have hW := Lib.hid (HB1.out.alloc HB1.out.size (.cells (madeCells #[Value.int IntKind.u8 0] n) 5))
    have HG := Lib.hid HB1.out.size
    generalize w1.heap.size = G at *
    go_loopg [25] n (fun g i wr => ∃ (k : Nat) (l : List Value), g + k = n ∧ i = .int .i64 k ∧ Own wr 1 (some ⟨G, 0, none⟩) n n l ∧ Below w.heap.size w wr ∧ ∀ j (hj : j < n), j < k → l[j]? = some (cb (xs[j] ^^^ ys[j] ^^^ zs[j])))
    case atStart => exact ⟨0, _, by omega, rfl, HO.out, hW.out, fun j hj h => by omega⟩
    case round =>
      obtain ⟨k, l, hk, rfl, hown, hbel, hl⟩ := hrel
      by_cases hlt : k < n
      · obtain ⟨xb, xoff, hxa, hxc⟩ := (HA.out.below hbel).at (by omega)
        obtain ⟨yb, yoff, hya, hyc⟩ := (HB.out.below hbel).at (by omega)
        obtain ⟨zb, zoff, hza, hzc⟩ := (HC.out.below hbel).at (by omega)
        have cx := hxc k (by omega)
        have cy := hyc k (by omega)
        have cz := hzc k (by omega)
        have hlk : k < l.length := by rw [hown.len]; omega
        obtain ⟨cg, cf⟩ := hown.cellAt (List.getElem?_eq_getElem hlk)
        rw [Nat.zero_add] at cg cf
        have HR := Lib.hid (And.intro hown (And.intro hbel hl))
        generalize l[k] = v0 at cg
        generalize ex : xs[k] = x at cx
        have Ex := Lib.hid ex; clear ex
        generalize ey : ys[k] = y at cy
        have Ey := Lib.hid ey; clear ey
        generalize ez : zs[k] = z at cz
        have Ez := Lib.hid ez; clear ez
        clear hown hbel hl hxc hyc hzc
        subst hxa hya hza
        go_wp2
        go_region
        go_wp2
        go_roundg (gk - 1)
        case measure => omega
        case rel =>
          refine ⟨k + 1, l.set k (cb (x ^^^ y ^^^ z)), by omega, by go_num, ?_, ?_, fun j hj h => ?_⟩
          · have h := HR.out.1.set k (cb (x ^^^ y ^^^ z)) (by omega)
            rw [Nat.zero_add] at h
            rw [xor8, xor8]; exact h.drew
          · exact (HR.out.2.1.setCell (by exact HG.out) _).drew
          · have hl := HR.out.2.2
            by_cases e : j = k
            · subst e; rw [List.getElem?_set_self (by have := HR.out.1.len; omega), Ex.out, Ey.out, Ez.out]
            · rw [List.getElem?_set_ne (fun q => e q.symm)]; exact hl j hj (by omega)
      · have HR := Lib.hid (lin_done hown.len (fun j hj h _ _ _ => hl j hj h) (by omega) h1 h2 h3 hown)
        have HBel := Lib.hid hbel
        clear hown hbel hl
        go_wp2
        go_quiet ((go_at_call 8; first
          | (with_reducible exact Calls.quiet_of_same (sum_q _ _ _ (lin n xs ys zs) _ HR.out.1 (by omega) (HR.out.2.drewN _)))
          | (with_reducible exact Calls.quiet_of_same (sum_q ao _ _ (xs.take n) _ (by simp; omega) (by omega) (((HA.out.below HBel.out).take n).drewN _)))
          | (with_reducible exact Calls.quiet_of_same (sum_q bo _ _ (ys.take n) _ (by simp; omega) (by omega) (((HB.out.below HBel.out).take n).drewN _)))
          | (with_reducible exact Calls.quiet_of_same (sum_q co _ _ (zs.take n) _ (by simp; omega) (by omega) (((HC.out.below HBel.out).take n).drewN _)))))
        go_wp2
        go_ret
        refine ⟨?_, below_drewN HBel.out _⟩
        rw [xor32, xor32, lin, crc_linear _ _ _ (by simp; omega) (by simp; omega)]
        simp
theorem crcLinear_in (W : World) (base : Nat) (v0 v1 v2 : Value) (k0 : Value.okWide Try.prog W .any base 22 v0) (k1 : Value.okWide Try.prog W .any base 22 v1) (k2 : Value.okWide Try.prog W .any base 22 v2)
    (r0 : Rd Try.prog W 22 v0.cells.toList) (r1 : Rd Try.prog W 22 v1.cells.toList) (r2 : Rd Try.prog W 22 v2.cells.toList) :
    Calls Try.prog 6 #[v0, v1, v2] W fun e w' => e = .returned (.bool true) ∧ Below W.heap.size W w' := by
  obtain ⟨ao, xs, c, rfl, ha, hx⟩ := in_bytes' Try.underlying22 Try.underlying5 (by kernel_rfl) k0 r0
  obtain ⟨bo, ys, d, rfl, hb, hy⟩ := in_bytes' Try.underlying22 Try.underlying5 (by kernel_rfl) k1 r1
  obtain ⟨co, zs, e, rfl, hc, hz⟩ := in_bytes' Try.underlying22 Try.underlying5 (by kernel_rfl) k2 r2
  refine crcLinear_walk ao bo co c d e (min (min xs.length ys.length) zs.length) xs ys zs W ha hb hc (by omega) (by omega) (by omega) hx hy hz ?_
  split <;> split <;> omega
end Go.Proofs.Ytagahmneipppoaa
