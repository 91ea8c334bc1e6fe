/-
  THE LAW LeaseApart OF LAYER 7, WALKED.
-/
import Derived.Test.YtgcldmmhfleggaaLeaseQ
namespace Go.Proofs.Ytgcldmmhfleggaa
open Go Go.RowKit

/-- A call, as the statements have it. -/
structure ActL where
  kind : UInt8
  id : Nat
  now : Nat
  life : Nat
def ActIs (t : ActL) (cs : List Value) : Prop := cs = [.int .u8 (t.kind.toNat : Int), .int .u64 (t.id : Int), .int .u64 (t.now : Int), .int .u64 (t.life : Int)] ∧ t.id < 18446744073709551616 ∧ t.now < 18446744073709551616 ∧ t.life < 18446744073709551616
theorem act_rd {w : World} {cs : List Value} (h : Rd Try.prog w 40 cs) : ∃ t, ActIs t cs := by
  have hu := Try.underlying40
  obtain ⟨c0, c1, c2, c3, rfl⟩ := list4 ((h.struct hu).1.trans (by kernel_rfl))
  obtain ⟨k, e0⟩ := (h.field hu 0 rfl (n := 1) (by kernel_rfl)).u8 Try.underlying5
  obtain ⟨a, e1, h1⟩ := (h.field hu 1 rfl (n := 1) (by kernel_rfl)).u64 Try.underlying28
  obtain ⟨b, e2, h2⟩ := (h.field hu 2 rfl (n := 1) (by kernel_rfl)).u64 Try.underlying28
  obtain ⟨c, e3, h3⟩ := (h.field hu 3 rfl (n := 1) (by kernel_rfl)).u64 Try.underlying28
  simp at e0 e1 e2 e3
  subst e0 e1 e2 e3
  exact ⟨⟨k, a, b, c⟩, rfl, h1, h2, h3⟩
set_option maxHeartbeats 4000000 in
set_option maxRecDepth 100000 in
theorem leaseApart_any (a b : UInt8) (po : Option Addr) (m d : Nat) (ps : List ActL) (w : World)
    (hpl : ps.length = m) (hp : RowOf w po 4 ActIs ps) (hpm : m ≤ maxLen) :
    Calls Try.prog 4 #[.int .u8 (a.toNat : Int), .int .u8 (b.toNat : Int), .slice po m d] w fun e w' => e = .returned (.bool true) ∧ Below w.heap.size w w' := by
  have HH := Lib.hid (And.intro hpl hp)
  clear hpl hp
  unfold maxLen at hpm
  have hat := a.toNat_lt
  have hbt := b.toNat_lt
  have ha := IntWalk.u64_in (1 + (a.toNat : Int)) (by omega)
  have hb := IntWalk.u64_in (1 + (b.toNat : Int)) (by omega)
  have HA := Lib.hid (show (1 : Int) + (a.toNat : Int) = ((1 + a.toNat : Nat) : Int) by omega)
  have HB := Lib.hid (show (1 : Int) + (b.toNat : Int) = ((1 + b.toNat : Nat) : Int) by omega)
  go_enter Try.func4, Try.ntmps4
  go_wp2_with (first
    | (go_at_call 8; (with_reducible refine (awake _).mono ?_); rintro e1 w1 ⟨rfl, hw⟩; have HW := Lib.hid hw; clear hw)
    | (go_at_call 9; (with_reducible refine (new_in w _ 0 0 rfl (by decide) HW.out).mono ?_); rintro e1 w2 ⟨px, rfl, _, hn1, _⟩; have H1 := Lib.hid hn1; clear hn1)
    | (go_at_call 9; (with_reducible refine (new_in w _ 0 0 rfl (by decide) H1.out.below).mono ?_); rintro e1 w3 ⟨py, rfl, hb3, hn2, hpy⟩; have H2 := Lib.hid (show Two w w3 px py 0 [] 0 [] from ⟨[px], [py], H1.out.stays hb3, hn2, fun k hk hG => by have := H1.out.book.lt k hk; rw [List.mem_singleton] at hG; omega⟩); clear hn2 hb3)
    | (go_at_call 10; (with_reducible refine (xopen w px py 0 0 [] [] 0 _ 0 (1 + a.toNat) _ H2.out rfl HA.out (by decide) (by decide) (by decide) (by omega)).mono ?_); rintro e2 w4 ⟨rfl, hn3⟩; have H3 := Lib.hid hn3.symm; clear hn3)
    | (go_at_call 10; (with_reducible refine (xopen w py px 0 _ [] _ 0 _ 0 (1 + a.toNat) _ H3.out rfl HA.out (by decide) (by decide) (by decide) (by omega)).mono ?_); rintro e2 w5 ⟨rfl, hn4⟩; have H4 := Lib.hid hn4.symm; clear hn4)
    | (go_at_call 10; (with_reducible refine (xopen w px py _ _ _ _ 0 _ 0 (1 + b.toNat) _ H4.out rfl HB.out (by simp) (by decide) (by decide) (by omega)).mono ?_); rintro e2 w6 ⟨rfl, hn5⟩; have H5 := Lib.hid hn5; clear hn5))
  have ea : endsOf 0 (1 + a.toNat) = 1 + a.toNat := by unfold endsOf; rw [if_neg (by omega)]; omega
  have hO1 : OneOf 1 [⟨1, endsOf 0 (1 + a.toNat), 1 + a.toNat⟩] := ⟨by simp, fun e he => by simp at he; subst he; exact ⟨rfl, by dsimp only; omega⟩⟩
  have hO2 : OneOf 2 [⟨2, endsOf 0 (1 + b.toNat), 1 + b.toNat⟩] := ⟨by simp, fun e he => by simp at he; subst he; exact ⟨rfl, by dsimp only; omega⟩⟩
  have HO := Lib.hid (And.intro hO1 hO2)
  clear hO1 hO2 ea
  go_loopg [17, 56] m (fun g vn vi wr => ∃ (k now : Nat) (s1 s2 : List Sess), g + k = m ∧ vi = .int .i64 k ∧ vn = .int .u64 (now : Int) ∧ Two w wr px py 2 (s1 ++ s2) 1 s1 ∧ OneOf 1 s1 ∧ OneOf 2 s2 ∧ now ≤ 4 * k ∧ k ≤ 61)
  case atStart => exact ⟨0, 0, _, _, by omega, rfl, rfl, H5.out, HO.out.1, HO.out.2, by omega, by omega⟩
  case round =>
    obtain ⟨k, now, s1, s2, hgk, rfl, rfl, htw, h1, h2, hnow, hk61⟩ := hrel
    have HN := Lib.hid htw
    clear htw
    by_cases hk : k < m
    · obtain ⟨zb, zoff, rfl, hz1⟩ := HH.out.2 (by rw [HH.out.1]; omega)
      have hkl : k < ps.length := by rw [HH.out.1]; exact hk
      obtain ⟨es, hes, ⟨rfl, hx1, hx2, hx3⟩, hcell⟩ := hz1 k hkl
      have hC := Chg.of_below HN.out.below (fun _ => False)
      have c0 := hC.cell (hcell 0 _ rfl) (fun h => h)
      have c1 := hC.cell (hcell 1 _ rfl) (fun h => h)
      have c2 := hC.cell (hcell 2 _ rfl) (fun h => h)
      have c3 := hC.cell (hcell 3 _ rfl) (fun h => h)
      simp only [Nat.add_zero] at c0
      generalize ps[k] = tt at *
      obtain ⟨kd, x1, x2, x3⟩ := tt
      dsimp only at *
      clear hcell hz1 hes hkl hC
      by_cases h60 : k ≤ 60
      · obtain ⟨q, hq, hql⟩ : ∃ q : Nat, (x2 : Int) % 5 = (q : Int) ∧ q < 5 := ⟨x2 % 5, by omega, by omega⟩
        have hw := IntWalk.u64_in ((now : Int) + (q : Int)) (by omega)
        have HS := Lib.hid (show (now : Int) + (q : Int) = ((now + q : Nat) : Int) by omega)
        have hn64 : now + q < 18446744073709551616 := by omega
        have n1 : ∀ e ∈ s1, e.id ≠ 2 := fun e he => by have := (h1.2 e he).1; omega
        have n2 : ∀ e ∈ s2, e.id ≠ 1 := fun e he => by have := (h2.2 e he).1; omega
        have H0 := Lib.hid (HN.out.stays ((Below.refl _ wr).alloc (Nat.le_refl _) (.cells #[.int .u8 (kd.toNat : Int), .int .u64 (x1 : Int), .int .u64 (x2 : Int), .int .u64 (x3 : Int)] 40)))
        have hkd : (kd.toNat : Int) % 3 = 0 ∨ (kd.toNat : Int) % 3 = 1 ∨ (kd.toNat : Int) % 3 = 2 := by omega
        rcases hkd with hkr | hkr | hkr
        ·
          have hA1 : OneOf 1 (s1) := h1
          have hA2 : OneOf 2 ((renewL s2 2 (now + q)).1) := h2.renew _
          have HR := Lib.hid (And.intro (renewL_app1 (s1 := s1) (s2 := s2) (id := 1) (now := now + q) n2) (renewL_app2 (s1 := s1) (s2 := s2) (id := 2) (now := now + q) n1))
          have HJ := Lib.hid (And.intro (OneOf.len2 hA1 hA2) (And.intro (OneOf.len2 (hA1.stays (now + q)) (hA2.stays (now + q))) (And.intro (stays_app (s1) ((renewL s2 2 (now + q)).1) (now + q)) (And.intro (liveL_app1 (s1 := stays (s1) (now + q)) (s2 := stays ((renewL s2 2 (now + q)).1) (now + q)) (id := 1) (now := now + q) (fun e he => by have := ((hA2.stays (now + q)).2 e he).1; omega)) (And.intro (hA1.stays (now + q)) (hA2.stays (now + q)))))))
          have HI := Lib.hid (OneOf.len2 h1 h2)
          obtain ⟨F, G, hfx, hfy, hfd⟩ := HN.out
          have hTF : wr.heap.size ∉ F := fun h => Nat.lt_irrefl _ (hfx.book.lt _ h)
          have HX := Lib.hid (And.intro (hfx.alloc (.cells #[.int .u8 (kd.toNat : Int), .int .u64 (x1 : Int), .int .u64 (x2 : Int), .int .u64 (x3 : Int)] 40)) (And.intro (hfy.alloc (.cells #[.int .u8 (kd.toNat : Int), .int .u64 (x1 : Int), .int .u64 (x2 : Int), .int .u64 (x3 : Int)] 40)) (And.intro hfd (And.intro hTF (heap_top wr (.cells #[.int .u8 (kd.toNat : Int), .int .u64 (x1 : Int), .int .u64 (x2 : Int), .int .u64 (x3 : Int)] 40))))))
          clear hfx hfy hfd hTF
          clear hA1 hA2 h1 h2 n1 n2
          go_wp2_with (first
            | (go_at_call 13; (with_reducible refine (renew_in w px 2 (s1 ++ s2) _ F 2 _ _ 2 (now + q) _ HX.out.1 rfl HS.out HR.out.2 HI.out.1 hn64 HI.out.2.2.1).mono ?_); rintro e5 w5 ⟨rfl, hn⟩; have y0 := heap_cell (hn.choose_spec.2.1.heap HX.out.2.2.2.2 HX.out.2.2.2.1) 0; simp at y0; have H5 := Lib.hid (Two.step HX.out.1 HX.out.2.1 HX.out.2.2.1 hn); clear hn)
            | (go_at_call 12; (with_reducible refine (xexpire w px py 2 1 _ _ _ (now + q) _ H5.out HS.out HJ.out.1.1).mono ?_); rintro e6 w6 ⟨uo, um, uc, rfl, hn⟩; have H6 := Lib.hid hn.symm; clear hn)
            | (go_at_call 12; (with_reducible refine (xexpire w py px 1 2 _ _ _ (now + q) _ H6.out HS.out HJ.out.1.2.1).mono ?_); rintro e7 w7 ⟨vo, vm, vc, rfl, hn⟩; rw [HJ.out.2.2.1] at hn; have H7 := Lib.hid hn.symm; clear hn)
            | (go_at_call 11; (with_reducible refine (xlive w px py 2 1 _ _ 1 _ 1 (now + q) _ _ H7.out rfl HS.out HJ.out.2.2.2.1 HJ.out.2.1.1).mono ?_); rintro e8 w8 ⟨rfl, hn⟩; have H8 := Lib.hid hn.symm; clear hn)
            | (go_at_call 11; (with_reducible refine (xlive w py px 1 2 _ _ 1 _ 1 (now + q) _ _ H8.out rfl HS.out rfl HJ.out.2.1.2.1).mono ?_); rintro e9 w9 ⟨rfl, hn⟩; have H9 := Lib.hid hn.symm; clear hn))
          all_goals (
            go_roundg (gk - 1)
            case measure => omega
            case rel => exact ⟨k + 1, now + q, stays (s1) (now + q), stays ((renewL s2 2 (now + q)).1) (now + q), by omega, by go_num, by rw [HS.out], H9.out, HJ.out.2.2.2.2.1, HJ.out.2.2.2.2.2, by omega, by omega⟩)
        ·
          have hA1 : OneOf 1 ((renewL s1 1 (now + q)).1) := h1.renew _
          have hA2 : OneOf 2 (s2) := h2
          have HR := Lib.hid (And.intro (renewL_app1 (s1 := s1) (s2 := s2) (id := 1) (now := now + q) n2) (renewL_app2 (s1 := s1) (s2 := s2) (id := 2) (now := now + q) n1))
          have HJ := Lib.hid (And.intro (OneOf.len2 hA1 hA2) (And.intro (OneOf.len2 (hA1.stays (now + q)) (hA2.stays (now + q))) (And.intro (stays_app ((renewL s1 1 (now + q)).1) (s2) (now + q)) (And.intro (liveL_app1 (s1 := stays ((renewL s1 1 (now + q)).1) (now + q)) (s2 := stays (s2) (now + q)) (id := 1) (now := now + q) (fun e he => by have := ((hA2.stays (now + q)).2 e he).1; omega)) (And.intro (hA1.stays (now + q)) (hA2.stays (now + q)))))))
          have HI := Lib.hid (OneOf.len2 h1 h2)
          clear hA1 hA2 h1 h2 n1 n2
          go_wp2_with (first
            | (go_at_call 13; (with_reducible refine (xrenew w px py 2 1 (s1 ++ s2) _ s1 1 _ _ 1 (now + q) _ H0.out rfl HS.out HR.out.1 HI.out.1 hn64 HI.out.2.2.1).mono ?_); rintro e4 w4 ⟨rfl, hn⟩; have H4 := Lib.hid hn.symm; clear hn)
            | (go_at_call 13; (with_reducible refine (xrenew w py px 1 2 s1 (renewL s1 1 (now + q)).1 _ 1 _ (renewL s1 1 (now + q)).2 1 (now + q) _ H4.out rfl HS.out rfl HI.out.2.1 hn64 HI.out.2.2.2).mono ?_); rintro e5 w5 ⟨rfl, hn⟩; have H5 := Lib.hid hn.symm; clear hn)
            | (go_at_call 12; (with_reducible refine (xexpire w px py 2 1 _ _ _ (now + q) _ H5.out HS.out HJ.out.1.1).mono ?_); rintro e6 w6 ⟨uo, um, uc, rfl, hn⟩; have H6 := Lib.hid hn.symm; clear hn)
            | (go_at_call 12; (with_reducible refine (xexpire w py px 1 2 _ _ _ (now + q) _ H6.out HS.out HJ.out.1.2.1).mono ?_); rintro e7 w7 ⟨vo, vm, vc, rfl, hn⟩; rw [HJ.out.2.2.1] at hn; have H7 := Lib.hid hn.symm; clear hn)
            | (go_at_call 11; (with_reducible refine (xlive w px py 2 1 _ _ 1 _ 1 (now + q) _ _ H7.out rfl HS.out HJ.out.2.2.2.1 HJ.out.2.1.1).mono ?_); rintro e8 w8 ⟨rfl, hn⟩; have H8 := Lib.hid hn.symm; clear hn)
            | (go_at_call 11; (with_reducible refine (xlive w py px 1 2 _ _ 1 _ 1 (now + q) _ _ H8.out rfl HS.out rfl HJ.out.2.1.2.1).mono ?_); rintro e9 w9 ⟨rfl, hn⟩; have H9 := Lib.hid hn.symm; clear hn))
          all_goals (
            go_roundg (gk - 1)
            case measure => omega
            case rel => exact ⟨k + 1, now + q, stays ((renewL s1 1 (now + q)).1) (now + q), stays (s2) (now + q), by omega, by go_num, by rw [HS.out], H9.out, HJ.out.2.2.2.2.1, HJ.out.2.2.2.2.2, by omega, by omega⟩)
        ·
          have hA1 : OneOf 1 (s1) := h1
          have hA2 : OneOf 2 (s2) := h2
          have HR := Lib.hid (And.intro (renewL_app1 (s1 := s1) (s2 := s2) (id := 1) (now := now + q) n2) (renewL_app2 (s1 := s1) (s2 := s2) (id := 2) (now := now + q) n1))
          have HJ := Lib.hid (And.intro (OneOf.len2 hA1 hA2) (And.intro (OneOf.len2 (hA1.stays (now + q)) (hA2.stays (now + q))) (And.intro (stays_app (s1) (s2) (now + q)) (And.intro (liveL_app1 (s1 := stays (s1) (now + q)) (s2 := stays (s2) (now + q)) (id := 1) (now := now + q) (fun e he => by have := ((hA2.stays (now + q)).2 e he).1; omega)) (And.intro (hA1.stays (now + q)) (hA2.stays (now + q)))))))
          have HI := Lib.hid (OneOf.len2 h1 h2)
          clear hA1 hA2 h1 h2 n1 n2
          go_wp2_with (first
            | (go_at_call 12; (with_reducible refine (xexpire w px py 2 1 _ _ _ (now + q) _ H0.out HS.out HJ.out.1.1).mono ?_); rintro e6 w6 ⟨uo, um, uc, rfl, hn⟩; have H6 := Lib.hid hn.symm; clear hn)
            | (go_at_call 12; (with_reducible refine (xexpire w py px 1 2 _ _ _ (now + q) _ H6.out HS.out HJ.out.1.2.1).mono ?_); rintro e7 w7 ⟨vo, vm, vc, rfl, hn⟩; rw [HJ.out.2.2.1] at hn; have H7 := Lib.hid hn.symm; clear hn)
            | (go_at_call 11; (with_reducible refine (xlive w px py 2 1 _ _ 1 _ 1 (now + q) _ _ H7.out rfl HS.out HJ.out.2.2.2.1 HJ.out.2.1.1).mono ?_); rintro e8 w8 ⟨rfl, hn⟩; have H8 := Lib.hid hn.symm; clear hn)
            | (go_at_call 11; (with_reducible refine (xlive w py px 1 2 _ _ 1 _ 1 (now + q) _ _ H8.out rfl HS.out rfl HJ.out.2.1.2.1).mono ?_); rintro e9 w9 ⟨rfl, hn⟩; have H9 := Lib.hid hn.symm; clear hn))
          all_goals (
            go_roundg (gk - 1)
            case measure => omega
            case rel => exact ⟨k + 1, now + q, stays (s1) (now + q), stays (s2) (now + q), by omega, by go_num, by rw [HS.out], H9.out, HJ.out.2.2.2.2.1, HJ.out.2.2.2.2.2, by omega, by omega⟩)
      · go_wp2
        go_ret
        exact ⟨rfl, HN.out.below.alloc HN.out.below.size _⟩
    · go_wp2
      go_ret
      exact ⟨rfl, HN.out.below⟩
theorem leaseApart_in (W : World) (base : Nat) (v0 v1 v2 : Value) (k0 : Value.okWide Try.prog W .any base 5 v0) (k1 : Value.okWide Try.prog W .any base 5 v1) (k2 : Value.okWide Try.prog W .any base 38 v2) (r0 : Rd Try.prog W 5 v0.cells.toList) (r1 : Rd Try.prog W 5 v1.cells.toList) (r2 : Rd Try.prog W 38 v2.cells.toList) :
    Calls Try.prog 4 #[v0, v1, v2] W fun e w' => e = .returned (.bool true) ∧ Below W.heap.size W w' := by
  obtain ⟨a, rfl⟩ := in_u8 Try.underlying5 k0 r0
  obtain ⟨b, rfl⟩ := in_u8 Try.underlying5 k1 r1
  obtain ⟨co, zs, e, rfl, hc, hl, hm⟩ := in_slice Try.underlying38 (size := 4) (by kernel_rfl) (by decide) ActIs (fun es h => act_rd h) k2 r2
  exact leaseApart_any a b co _ e zs W rfl hc (Nat.le_trans hl hm)
end Go.Proofs.Ytgcldmmhfleggaa
