/-
  THE LAW LeaseLives OF LAYER 7, WALKED.
-/
import Derived.Test.YtgcldmmhfleggaaLeaseE
namespace Go.Proofs.Ytgcldmmhfleggaa
open Go Go.RowKit

theorem row_id {w : World} {uo : Option Addr} {k : Nat} {l : List Nat} {x : Nat} (h : Row w uo (l.map idCell)) (hx : l[k]? = some x) : ∃ b off, uo = some ⟨b, off, none⟩ ∧ w.cell? ⟨b, off + k, none⟩ = some (.int .u64 (x : Int)) := by
  obtain ⟨b, off, rfl, hc⟩ := h (by intro h0; have h1 := congrArg List.length h0; rw [List.length_map, List.length_nil] at h1; have := (List.getElem?_eq_some_iff.1 hx).1; omega)
  exact ⟨b, off, rfl, hc k (idCell x) (by rw [List.getElem?_map, hx]; rfl)⟩
set_option maxHeartbeats 1000000 in
theorem same_ids (ao bo : Option Addr) (n c d : Nat) (l : List Nat) (w : World) (h1 : Row w ao (l.map idCell)) (h2 : Row w bo (l.map idCell)) (hn : l.length = n) (hm : n ≤ 1000000) :
    Calls Try.prog 14 #[.slice ao n c, .slice bo n d] w fun e w' => e = .returned (.bool true) ∧ Below w.heap.size w w' := by
  have HH := Lib.hid (And.intro h1 (And.intro h2 hn))
  clear h1 h2 hn
  go_enter Try.func14, Try.ntmps14
  go_wp2
  go_loopg [13] n (fun g v wr => ∃ k : Nat, g + k = n ∧ v = .int .i64 k ∧ Below w.heap.size w wr)
  case atStart => exact ⟨0, by omega, rfl, Below.refl _ _⟩
  case round =>
    obtain ⟨k, hgk, rfl, hb⟩ := hrel
    by_cases hk : k < n
    · obtain ⟨x, hx⟩ : ∃ x, l[k]? = some x := ⟨_, List.getElem?_eq_getElem (by rw [HH.out.2.2]; exact hk)⟩
      obtain ⟨b1, o1, rfl, c1⟩ := row_id (HH.out.1.below hb) hx
      obtain ⟨b2, o2, rfl, c2⟩ := row_id (HH.out.2.1.below hb) hx
      have d1 : wr.drew.cell? ⟨b1, o1 + k, none⟩ = some (.int .u64 (x : Int)) := c1
      have d2 : wr.drew.cell? ⟨b2, o2 + k, none⟩ = some (.int .u64 (x : Int)) := c2
      have hki : (k : Int) < (n : Int) := by omega
      have hk0 : (0 : Int) ≤ (k : Int) := by omega
      have HB := Lib.hid hb.drew
      clear hb hx
      go_wp2
      go_region
      all_goals go_wp2
      all_goals (
        go_roundg (gk - 1)
        case measure => omega
        case rel => exact ⟨k + 1, by omega, by go_num, HB.out⟩)
    · have HB := Lib.hid hb
      clear hb
      go_wp2
      go_ret
      exact ⟨rfl, HB.out⟩
theorem ends_plain {now life : Nat} (h : now + life ≤ 18446744073709551615) : endsOf now life = now + life := by
  unfold endsOf; rw [if_neg (by omega)]
theorem one_live {x life now : Nat} (h : now < x) : liveL [⟨1, x, life⟩] 1 now = true := by simp [liveL, h]
theorem one_dead {x life now : Nat} (h : ¬ now < x) : liveL [⟨1, x, life⟩] 1 now = false := by simp [liveL]; omega
theorem one_none {x life now : Nat} (h : now < x) : expired [⟨1, x, life⟩] now = [] ∧ stays [⟨1, x, life⟩] now = [⟨1, x, life⟩] := by
  have h2 : ¬ x ≤ now := by omega
  constructor
  · simp [expired, h2]
  · simp [stays, h2]
theorem one_gone {x life now : Nat} (h : x ≤ now) : expired [⟨1, x, life⟩] now = [1] ∧ stays [⟨1, x, life⟩] now = [] := by
  constructor
  · simp [expired, h]
  · simp [stays, h]
theorem one_renew {x life now : Nat} (h : now < x) (he : x ≤ now + life) (hm : now + life ≤ 18446744073709551615) : renewL [⟨1, x, life⟩] 1 now = ([⟨1, now + life, life⟩], 0) := by
  have h2 : ¬ x ≤ now := by omega
  have h3 : max x (now + life) = now + life := by omega
  simp [renewL, h2, ends_plain hm, h3]
set_option maxHeartbeats 4000000 in
set_option maxRecDepth 100000 in
theorem leaseLives_any (life : Nat) (po : Option Addr) (m d : Nat) (ps : List Nat) (w : World) (hlife : life < 65536)
    (hpl : ps.length = m) (hp : RowOf w po 1 (fun x cs => cs = [.int .u16 ((x : Nat) : Int)] ∧ x < 65536) ps) (hpm : m ≤ maxLen) :
    Calls Try.prog 3 #[.int .u16 (life : Int), .slice po m d] w fun e w' => e = .returned (.bool true) ∧ Below w.heap.size w w' := by
  have HH := Lib.hid (And.intro hpl hp)
  clear hpl hp
  unfold maxLen at hpm
  obtain ⟨lf, hlf⟩ : ∃ lf : Nat, lf = 1 + life := ⟨_, rfl⟩
  have hle := IntWalk.u64_in (1 + (life : Int)) (by omega)
  have hl1 : (1 : Int) + (life : Int) = (lf : Int) := by omega
  rw [hl1] at hle
  have hlf0 : 0 < lf := by omega
  have hlf1 : lf ≤ 65536 := by omega
  have HE0 := Lib.hid (show endsOf 0 lf = lf by rw [ends_plain (by omega)]; omega)
  clear hlf
  go_enter Try.func3, Try.ntmps3
  go_wp2_with (first
    | (go_at_call 8; (with_reducible refine (awake _).mono ?_); rintro e1 w1 ⟨rfl, hw⟩; have HW := Lib.hid hw; clear hw)
    | (go_at_call 9; (with_reducible refine (new_in w _ 0 0 rfl (by decide) HW.out).mono ?_); rintro e1 w2 ⟨p, rfl, _, hn1, _⟩; have H1 := Lib.hid hn1; clear hn1)
    | (go_at_call 10; (with_reducible refine (open_in w p 0 [] _ 0 _ 0 lf _ H1.out rfl rfl (by decide) (by decide) (by decide) (by omega)).mono ?_); rintro e2 w3 ⟨rfl, F3, hn3, _, _⟩; have H3 := Lib.hid (show BookIn w w3 p 1 [⟨1, endsOf 0 lf, lf⟩] F3 from hn3); clear hn3))
  go_loopg [10, 30] m (fun g vn vi wr => ∃ (k now : Nat) (F : List Nat), g + k = m ∧ vi = .int .i64 k ∧ vn = .int .u64 (now : Int) ∧ BookIn w wr p 1 [⟨1, now + lf, lf⟩] F ∧ now ≤ 65536 * k ∧ k ≤ 201)
  case atStart => exact ⟨0, 0, F3, by omega, rfl, rfl, by rw [Nat.zero_add, ← HE0.out]; have := H3.out; rw [HE0.out] at this ⊢; exact this, by omega, by omega⟩
  case round =>
    obtain ⟨k, now, F, hgk, rfl, rfl, hbk, hnow, hk201⟩ := hrel
    have HN := Lib.hid hbk
    have HLL := Lib.hid (show ([⟨1, now + lf, lf⟩] : List Sess).length ≤ 1000000 by simp)
    clear hbk
    by_cases hk : k < m
    · obtain ⟨zb, zoff, rfl, hz1⟩ := HH.out.2 (by rw [HH.out.1]; omega)
      have hkl : k < ps.length := by rw [HH.out.1]; exact hk
      obtain ⟨es, hes, ⟨rfl, hx⟩, hcell⟩ := hz1 k hkl
      have c0 := (Chg.of_below HN.out.below (fun _ => False)).cell (hcell 0 _ rfl) (fun h => h)
      simp only [Nat.add_zero, Nat.mul_one] at c0
      generalize ps[k] = x at *
      clear hcell hz1 hes hkl
      by_cases h200 : k ≤ 200
      · obtain ⟨q, hq, hql⟩ : ∃ q : Nat, (x : Int) % (lf : Int) = (q : Int) ∧ q < lf := ⟨x % lf, by simp, Nat.mod_lt _ hlf0⟩
        have hlfne : ¬ (lf : Int) = 0 := by omega
        have hw := IntWalk.u64_in ((now : Int) + (q : Int)) (by omega)
        have HS := Lib.hid (show (now : Int) + (q : Int) = ((now + q : Nat) : Int) by omega)
        have HT := Lib.hid (And.intro (one_live (x := now + lf) (life := lf) (now := now + q) (by omega)) (And.intro (one_none (x := now + lf) (life := lf) (now := now + q) (by omega)) (one_renew (x := now + lf) (life := lf) (now := now + q) (by omega) (by omega) (by omega))))
        have hn64 : now + q < 18446744073709551616 := by omega
        have HLF := Lib.hid (show ∀ e ∈ ([⟨1, now + lf, lf⟩] : List Sess), e.life < 18446744073709551616 by simp; omega)
        go_wp2_with (first
          | (go_at_call 11; (with_reducible refine (live_in w p 1 _ _ 1 _ 1 (now + q) true _ HN.out rfl HS.out HT.out.1 HLL.out).mono ?_); rintro e5 w5 ⟨rfl, hb5⟩; have H5 := Lib.hid (HN.out.stays hb5); clear hb5)
          | (go_at_call 12; (with_reducible refine (expire_in w p 1 _ _ _ 0 _ _ (now + q) _ H5.out HS.out HT.out.2.1.1 HT.out.2.1.2 rfl HLL.out).mono ?_); rintro e7 w7 ⟨uo, uc, rfl, _, _, F7, hn7, _, _⟩; have H7 := Lib.hid hn7; clear hn7)
          | (go_at_call 13; (with_reducible refine (renew_in w p 1 _ _ _ 1 _ 0 1 (now + q) _ H7.out rfl HS.out HT.out.2.2 HLL.out hn64 HLF.out).mono ?_); rintro e10 w10 ⟨rfl, F10, hn10, _, _⟩; have H10 := Lib.hid hn10; clear hn10))
        go_roundg (gk - 1)
        case measure => omega
        case rel => exact ⟨k + 1, now + q, F10, by omega, by go_num, by rw [HS.out], H10.out, by omega, by omega⟩
      ·
        have HT := Lib.hid (And.intro (one_live (x := now + lf) (life := lf) (now := now + lf - 1) (by omega)) (And.intro (one_dead (x := now + lf) (life := lf) (now := now + lf) (by omega)) (And.intro (one_none (x := now + lf) (life := lf) (now := now + lf - 1) (by omega)) (one_gone (x := now + lf) (life := lf) (now := now + lf) (Nat.le_refl _)))))
        have hs1 : (now : Int) + (lf : Int) = ((now + lf : Nat) : Int) := by omega
        have hw1 := IntWalk.u64_in ((now : Int) + (lf : Int)) (by omega)
        have hw2 := IntWalk.u64_in ((now : Int) + (lf : Int) - 1) (by omega)
        have HS1 := Lib.hid hs1
        have HS2 := Lib.hid (show (now : Int) + (lf : Int) - 1 = ((now + lf - 1 : Nat) : Int) by omega)
        clear hs1
        have HRN := Lib.hid (And.intro (show renewL [] 1 now = ([], 11) from rfl) (And.intro (show ([] : List Sess).length ≤ 1000000 by simp) (show ∀ e ∈ ([] : List Sess), e.life < 18446744073709551616 by simp)))
        have hnow64 : now < 18446744073709551616 := by omega
        go_wp2_with (first
          | (go_at_call 11; (with_reducible refine (live_in w p 1 _ _ 1 _ 1 (now + lf - 1) true _ HN.out rfl HS2.out HT.out.1 HLL.out).mono ?_); rintro e5 w5 ⟨rfl, hb5⟩; have H5 := Lib.hid (HN.out.stays hb5); clear hb5)
          | (go_at_call 11; (with_reducible refine (live_in w p 1 _ _ 1 _ 1 (now + lf) false _ H5.out rfl HS1.out HT.out.2.1 HLL.out).mono ?_); rintro e6 w6 ⟨rfl, hb6⟩; have H6 := Lib.hid (H5.out.stays hb6); clear hb6)
          | (go_at_call 12; (with_reducible refine (expire_in w p 1 _ _ _ 0 _ _ (now + lf - 1) _ H6.out HS2.out HT.out.2.2.1.1 HT.out.2.2.1.2 rfl HLL.out).mono ?_); rintro e7 w7 ⟨uo, uc, rfl, _, _, F7, hn7, _, _⟩; have H7 := Lib.hid hn7; clear hn7)
          | (go_at_call 12; (with_reducible refine (expire_in w p 1 _ _ _ 1 _ _ (now + lf) _ H7.out HS1.out HT.out.2.2.2.1 HT.out.2.2.2.2 rfl HLL.out).mono ?_); rintro e8 w8 ⟨vo, vc, rfl, ho8, _, F8, hn8, _, _⟩; have H8 := Lib.hid (And.intro hn8 (And.intro ho8 (Row.alloc w8 #[.int .u64 1] 28 (0, 0)))); clear hn8 ho8)
          | (go_at_call 14; (with_reducible refine (same_ids vo _ 1 vc 1 [1] _ (H8.out.2.1.keep ((Chg.refl (fun _ => False) w8).alloc _) (fun _ _ h => h)).row H8.out.2.2 rfl (by decide)).mono ?_); rintro e9 w9 ⟨rfl, hb9⟩; have H9 := Lib.hid ((H8.out.1.alloc _).stays hb9); clear hb9)
          | (go_at_call 13; (with_reducible refine (renew_in w p 1 _ _ _ 1 _ 11 1 now _ H9.out rfl rfl HRN.out.1 HRN.out.2.1 hnow64 HRN.out.2.2).mono ?_); rintro e10 w10 ⟨rfl, F10, hn10, _, _⟩; have H10 := Lib.hid hn10; clear hn10))
        go_ret
        exact ⟨rfl, H10.out.below⟩
    ·
      have HT := Lib.hid (And.intro (one_live (x := now + lf) (life := lf) (now := now + lf - 1) (by omega)) (And.intro (one_dead (x := now + lf) (life := lf) (now := now + lf) (by omega)) (And.intro (one_none (x := now + lf) (life := lf) (now := now + lf - 1) (by omega)) (one_gone (x := now + lf) (life := lf) (now := now + lf) (Nat.le_refl _)))))
      have hs1 : (now : Int) + (lf : Int) = ((now + lf : Nat) : Int) := by omega
      have hw1 := IntWalk.u64_in ((now : Int) + (lf : Int)) (by omega)
      have hw2 := IntWalk.u64_in ((now : Int) + (lf : Int) - 1) (by omega)
      have HS1 := Lib.hid hs1
      have HS2 := Lib.hid (show (now : Int) + (lf : Int) - 1 = ((now + lf - 1 : Nat) : Int) by omega)
      clear hs1
      have HRN := Lib.hid (And.intro (show renewL [] 1 now = ([], 11) from rfl) (And.intro (show ([] : List Sess).length ≤ 1000000 by simp) (show ∀ e ∈ ([] : List Sess), e.life < 18446744073709551616 by simp)))
      have hnow64 : now < 18446744073709551616 := by omega
      go_wp2_with (first
        | (go_at_call 11; (with_reducible refine (live_in w p 1 _ _ 1 _ 1 (now + lf - 1) true _ HN.out rfl HS2.out HT.out.1 HLL.out).mono ?_); rintro e5 w5 ⟨rfl, hb5⟩; have H5 := Lib.hid (HN.out.stays hb5); clear hb5)
        | (go_at_call 11; (with_reducible refine (live_in w p 1 _ _ 1 _ 1 (now + lf) false _ H5.out rfl HS1.out HT.out.2.1 HLL.out).mono ?_); rintro e6 w6 ⟨rfl, hb6⟩; have H6 := Lib.hid (H5.out.stays hb6); clear hb6)
        | (go_at_call 12; (with_reducible refine (expire_in w p 1 _ _ _ 0 _ _ (now + lf - 1) _ H6.out HS2.out HT.out.2.2.1.1 HT.out.2.2.1.2 rfl HLL.out).mono ?_); rintro e7 w7 ⟨uo, uc, rfl, _, _, F7, hn7, _, _⟩; have H7 := Lib.hid hn7; clear hn7)
        | (go_at_call 12; (with_reducible refine (expire_in w p 1 _ _ _ 1 _ _ (now + lf) _ H7.out HS1.out HT.out.2.2.2.1 HT.out.2.2.2.2 rfl HLL.out).mono ?_); rintro e8 w8 ⟨vo, vc, rfl, ho8, _, F8, hn8, _, _⟩; have H8 := Lib.hid (And.intro hn8 (And.intro ho8 (Row.alloc w8 #[.int .u64 1] 28 (0, 0)))); clear hn8 ho8)
        | (go_at_call 14; (with_reducible refine (same_ids vo _ 1 vc 1 [1] _ (H8.out.2.1.keep ((Chg.refl (fun _ => False) w8).alloc _) (fun _ _ h => h)).row H8.out.2.2 rfl (by decide)).mono ?_); rintro e9 w9 ⟨rfl, hb9⟩; have H9 := Lib.hid ((H8.out.1.alloc _).stays hb9); clear hb9)
        | (go_at_call 13; (with_reducible refine (renew_in w p 1 _ _ _ 1 _ 11 1 now _ H9.out rfl rfl HRN.out.1 HRN.out.2.1 hnow64 HRN.out.2.2).mono ?_); rintro e10 w10 ⟨rfl, F10, hn10, _, _⟩; have H10 := Lib.hid hn10; clear hn10))
      go_ret
      exact ⟨rfl, H10.out.below⟩

theorem leaseLives_in (W : World) (base : Nat) (v0 v1 : Value) (k0 : Value.okWide Try.prog W .any base 22 v0) (k1 : Value.okWide Try.prog W .any base 23 v1) (r0 : Rd Try.prog W 22 v0.cells.toList) (r1 : Rd Try.prog W 23 v1.cells.toList) :
    Calls Try.prog 3 #[v0, v1] W fun e w' => e = .returned (.bool true) ∧ Below W.heap.size W w' := by
  obtain ⟨n, rfl, hn⟩ := in_u16 Try.underlying22 k0 r0
  obtain ⟨co, zs, e, rfl, hc, hl, hm⟩ := in_slice Try.underlying23 (size := 1) (by kernel_rfl) (by decide) (fun (x : Nat) cs => cs = [.int .u16 (x : Int)] ∧ x < 65536) (fun es h => h.u16 Try.underlying22) k1 r1
  exact leaseLives_any n co _ e zs W hn rfl hc (Nat.le_trans hl hm)
end Go.Proofs.Ytgcldmmhfleggaa
