/-
  LAYER 4: the law DiskSure.
-/
import Derived.Test.YtmbmahkdhpfahaaDiskN
namespace Go.Proofs.Ytmbmahkdhpfahaa
open Go Go.RowKit Go.WideShapes

theorem Dsk.crash_len (d : Dsk) (keep bit : Int) (h : d.sure ≤ d.b.length) : (d.crash keep bit).b.length = d.upto keep := by
  have := d.upto_le keep h
  unfold Dsk.crash
  dsimp only
  split <;> simp <;> omega
def bitOf (bit : Int) : UInt8 := if 0 ≤ bit ∧ bit < 8 then UInt8.ofNat (2 ^ bit.toNat) else 0
theorem Dsk.crash_get (d : Dsk) (keep bit : Int) (j : Nat) (hj : j < d.upto keep) :
    (d.crash keep bit).b[j]? = (d.b[j]?).map fun v => if j = d.upto keep - 1 ∧ d.sure < d.upto keep then v ^^^ bitOf bit else v := by
  unfold Dsk.crash bitOf
  dsimp only
  by_cases hc : d.sure < d.upto keep ∧ 0 ≤ bit ∧ bit < 8
  · rw [if_pos hc, List.getElem?_modify, List.getElem?_take, if_pos hj, if_pos hc.2]
    cases d.b[j]? with
    | none => rfl
    | some v =>
      by_cases e : d.upto keep - 1 = j
      · simp [e, hc.1]
      · have e' : j ≠ d.upto keep - 1 := fun q => e q.symm
        simp [e, e']
  · rw [if_neg hc, List.getElem?_take, if_pos hj]
    cases d.b[j]? with
    | none => rfl
    | some v =>
      by_cases h1 : d.sure < d.upto keep
      · rw [if_neg (fun q => hc ⟨h1, q⟩)]; simp
      · simp [h1]
theorem crash_take (d : Dsk) (keep bit : Int) (k : Nat) (hs : d.sure ≤ d.b.length) (hk : k ≤ d.upto keep) (h : k < d.upto keep ∨ d.upto keep ≤ d.sure) : (d.crash keep bit).b.take k = d.b.take k := by
  have hu := d.upto_le keep hs
  apply List.ext_getElem?
  intro j
  rw [List.getElem?_take, List.getElem?_take]
  by_cases hj : j < k
  · rw [if_pos hj, if_pos hj, d.crash_get keep bit j (by omega)]
    cases d.b[j]? with
    | none => rfl
    | some v =>
      have : ¬ (j = d.upto keep - 1 ∧ d.sure < d.upto keep) := by omega
      simp [this]
  · rw [if_neg hj, if_neg hj]
/-- Behind a crash: what was sure is there, of the rest a beginning, but for a bit of the last byte. -/
theorem sure_facts (xs ys : List UInt8) (r : Nat) (keep bit : Int) {X : List UInt8} {M : Nat} (hX : X = (Dsk.crash ⟨r, xs.length, xs ++ ys⟩ keep bit).b) (hM : M = (Dsk.crash ⟨r, xs.length, xs ++ ys⟩ keep bit).sure) :
    X.length = M ∧ xs.length ≤ M ∧ M ≤ xs.length + ys.length ∧ X.take xs.length = xs ∧ (M = xs.length → keep ≤ 0 ∨ ys.length = 0) ∧
      (xs.length < M → X.take (M - 1) = (xs ++ ys).take (M - 1) ∧ ∃ v, (xs ++ ys)[M - 1]? = some v ∧ X[M - 1]? = some (v ^^^ bitOf bit)) := by
  have hu := Dsk.upto_le ⟨r, xs.length, xs ++ ys⟩ keep (by simp)
  have hl := Dsk.crash_len ⟨r, xs.length, xs ++ ys⟩ keep bit (by simp)
  have e : M = Dsk.upto ⟨r, xs.length, xs ++ ys⟩ keep := hM
  rw [← hX, ← e] at hl
  simp only [List.length_append, ← e] at hu
  refine ⟨hl, hu.1, hu.2, ?_, ?_, fun hlt => ⟨?_, ?_⟩⟩
  · rw [hX, crash_take _ _ _ _ (by simp) (by rw [← e]; exact hu.1) (by rw [← e]; simp only; omega)]
    simp
  · intro hm
    rw [hm] at e
    unfold Dsk.upto at e
    simp only [List.length_append] at e
    omega
  · rw [hX, crash_take _ _ _ _ (by simp) (by rw [← e]; omega) (by rw [← e]; omega)]
  · have hi : M - 1 < (xs ++ ys).length := by simp; omega
    have hg := Dsk.crash_get ⟨r, xs.length, xs ++ ys⟩ keep bit (M - 1) (by rw [← e]; omega)
    rw [← hX, ← e] at hg
    simp only [List.getElem?_eq_getElem hi] at hg ⊢
    refine ⟨_, rfl, ?_⟩
    rw [hg]
    simp [hlt]

theorem ap1 (xs : List UInt8) (h : xs.length ≤ 1000) : Dsk.append ⟨Int.toNat 5000, 0, []⟩ xs = (0, ⟨5000, 0, xs⟩) := by
  unfold Dsk.append
  rw [if_neg (by show ¬ (5000 - 0 < xs.length); omega)]; rfl
theorem ap2 (xs ys : List UInt8) (h : xs.length ≤ 1000) (h' : ys.length ≤ 1000) : Dsk.append ⟨5000, xs.length, xs⟩ ys = (0, ⟨5000, xs.length, xs ++ ys⟩) := by
  unfold Dsk.append
  rw [if_neg (by show ¬ (5000 - xs.length < ys.length); omega)]
theorem bit_and (bit : Int) : (bits .and .u8 ((bitOf bit).toNat : Int) (((bitOf bit).toNat - 1 : Int) % 256) == 0) = true := by
  unfold bitOf
  split
  · rename_i h
    have : ∀ r : Fin 8, (bits .and .u8 ((UInt8.ofNat (2 ^ r.val)).toNat : Int) (((UInt8.ofNat (2 ^ r.val)).toNat - 1 : Int) % 256) == 0) = true := by decide
    exact this ⟨bit.toNat, by omega⟩
  · decide
theorem bit_ne (bit : Int) : (((bitOf bit).toNat : Int) != 0) = (decide (0 ≤ bit) && decide (bit < 8)) := by
  unfold bitOf
  split
  · rename_i h
    have : ∀ r : Fin 8, ((((UInt8.ofNat (2 ^ r.val)).toNat : Int)) != 0) = true := by decide
    rw [this ⟨bit.toNat, by omega⟩]
    simp [h.1, h.2]
  · rename_i h
    have : (decide (0 ≤ bit) && decide (bit < 8)) = false := by
      rw [Bool.and_eq_false_iff, decide_eq_false_iff_not, decide_eq_false_iff_not]; omega
    rw [this]; rfl
theorem xor_back (v t : UInt8) : (v ^^^ t) ^^^ v = t := by
  rw [UInt8.xor_comm v t, UInt8.xor_assoc, UInt8.xor_self, UInt8.xor_zero]
set_option maxRecDepth 100000 in
set_option maxHeartbeats 1000000 in
theorem diskSure_walk (ao bo : Option Addr) (c d : Nat) (xs ys : List UInt8) (keep bit : Int) (w : World) (ha : Bts w ao xs) (hb : Bts w bo ys) (hk : -9223372036854775808 ≤ keep ∧ keep ≤ 9223372036854775807) :
    Calls Try.prog 3 #[.slice ao xs.length c, .slice bo ys.length d, .int .i64 keep, .int .i64 bit] w fun e w' => e = .returned (.bool true) ∧ Below w.heap.size w w' := by
  have HA := Lib.hid ha; clear ha
  have HB := Lib.hid hb; clear hb
  by_cases hl : 1000 < xs.length
  · have HL : decide (1000 < (xs.length : Int)) = true := by simpa using (by omega : (1000 : Int) < xs.length)
    go_enter Try.func3, Try.ntmps3
    go_wp2_with (go_at_call 7; refine (awake _).mono ?_; rintro e w1 ⟨rfl, hb⟩; have HB1 := Lib.hid hb; clear hb)
    go_ret
    exact ⟨rfl, HB1.out⟩
  by_cases hl' : 1000 < ys.length
  · have HL : decide (1000 < (xs.length : Int)) = false := by simpa using (by omega : (xs.length : Int) ≤ 1000)
    have HL' : decide (1000 < (ys.length : Int)) = true := by simpa using (by omega : (1000 : Int) < ys.length)
    go_enter Try.func3, Try.ntmps3
    go_wp2_with (go_at_call 7; refine (awake _).mono ?_; rintro e w1 ⟨rfl, hb⟩; have HB1 := Lib.hid hb; clear hb)
    go_ret
    exact ⟨rfl, HB1.out⟩
  have HL : decide (1000 < (xs.length : Int)) = false := by simpa using (by omega : (xs.length : Int) ≤ 1000)
  have HL' : decide (1000 < (ys.length : Int)) = false := by simpa using (by omega : (ys.length : Int) ≤ 1000)
  have h2 : xs.length ≤ 1000 := by omega
  have h3 : ys.length ≤ 1000 := by omega
  clear hl hl'
  go_enter Try.func3, Try.ntmps3
  go_wp2_with (first
    | (go_at_call 7; refine (awake _).mono ?_; rintro e w1 ⟨rfl, hb⟩; have HB1 := Lib.hid hb; clear hb)
    | (go_at_call 8; refine (new_mine 5000 (by decide) HB1.out).mono ?_; rintro e w2 ⟨rfl, hm⟩; have HM2 := Lib.hid hm; clear hm)
    | (go_at_call 9; (with_reducible refine (append_mine HM2.out _ _ _ xs rfl (HA.out.below HM2.out.below)).mono ?_); rintro e w3 ⟨rfl, hm⟩; rw [ap1 xs h2] at hm ⊢; have HM3 := Lib.hid hm; clear hm)
    | (go_at_call 9; (with_reducible refine (append_mine HM4.out _ _ _ ys rfl (HB.out.below HM4.out.below)).mono ?_); rintro e w5 ⟨rfl, hm⟩; rw [ap2 xs ys h2 h3] at hm ⊢; have HM5 := Lib.hid hm; clear hm)
    | (go_at_call 10; (with_reducible refine (sync_mine HM3.out).mono ?_); rintro e w4 ⟨rfl, hm⟩; have HM4 := Lib.hid (show Mine 48 w w4 _ ⟨5000, xs.length, xs⟩ from hm); clear hm)
    | (go_at_call 11; (with_reducible refine (crash_mine HM5.out keep bit hk).mono ?_); rintro e w6 ⟨rfl, hm⟩; have HM6 := Lib.hid hm; clear hm)
    | (go_at_call 12; (with_reducible refine (bytes_mine HM6.out).mono ?_); rintro e w7 ⟨po, cap, rfl, hm, ho, _, _⟩; have HM7 := Lib.hid hm; have HO := Lib.hid ho; clear hm ho))
  generalize hX : (Dsk.crash ⟨5000, xs.length, xs ++ ys⟩ keep bit).b = X at *
  obtain ⟨f1, f2, f3, f4, f5, f6⟩ := sure_facts xs ys 5000 keep bit hX.symm rfl
  have hs := Lib.hid (fun m => sure_mine (Mine.drewN HM7.out m))
  generalize hM : (Dsk.crash ⟨5000, xs.length, xs ++ ys⟩ keep bit).sure = M at *
  have hcap := HO.out.le
  have k1 := fun m => conv_bytes (w7.drewN m) Try.underlying22 Try.underlying5 Try.underlying9 po xs.length cap xs rfl (f4 ▸ (HO.out.bts.take xs.length).drewN m)
  have k2 := fun m => conv_bytes (w7.drewN m) Try.underlying22 Try.underlying5 Try.underlying9 ao xs.length c xs rfl ((HA.out.below HM7.out.below).drewN m)
  have F := Lib.hid (And.intro f4 (And.intro f5 (And.intro f6 (And.intro hX hM))))
  clear f4 f5 f6 hX hM
  rw [f1] at hcap ⊢
  have F1 := Lib.hid f1
  clear f1
  by_cases hm : M = xs.length
  · subst hm
    have E1 := IntWalk.i64_in ((xs.length : Int) + (ys.length : Int)) (by omega)
    have G1 : decide ((xs.length : Int) + (ys.length : Int) < (xs.length : Int)) = false := by simp; omega
    go_quiet ((go_at_call 13; exact Calls.quiet_of_same ((hs.out _).mono fun _ _ h => ⟨h.1, h.2.symm⟩)))
    go_wp2
    · go_ret
      refine ⟨?_, below_drewN HM7.out.below _⟩
      have h5 := F.out.2.1 (by first | trivial | rfl)
      have : (decide (keep ≤ 0) || ((ys.length : Int) == 0)) = true := by
        rcases h5 with h | h
        · simp [h]
        · simp [h]
      rw [this]; rfl
    · go_ret
      exact ⟨rfl, below_drewN HM7.out.below _⟩
  · have hm' : xs.length < M := by omega
    have E1 := IntWalk.i64_in ((xs.length : Int) + (ys.length : Int)) (by omega)
    have hc2 : xs.length ≤ cap := by omega
    have G0 : decide ((M : Int) < (xs.length : Int)) = false := by simp; omega
    have G1 : decide ((xs.length : Int) + (ys.length : Int) < (M : Int)) = false := by simp; omega
    go_quiet ((go_at_call 13; exact Calls.quiet_of_same ((hs.out _).mono fun _ _ h => ⟨h.1, h.2.symm⟩)))
    have HQ := Lib.hid (below_drewN HM7.out.below nq)
    have HXO := Lib.hid (HO.out.drewN nq)
    clear k1 k2 hs G0 G1
    generalize w7.drewN nq = w8 at *
    go_wp2_with (first
      | (at_builtin; refine wpList_append' rfl (.tmp 91) (.tmp 92) el_u8 rfl rfl rfl (Own.alloc0 _ 1 _ _) (by simp) ((HA.out.below HQ.out).below ((Below.refl _ _).alloc (Nat.le_refl _) _)) (one_cb xs) (by unfold maxLen; omega) (by omega) ?_; intro so sc w9 hx hch _ hx2; simp only [Nat.zero_add, List.nil_append] at hx; have HO9 := Lib.hid hx; have HC9 := Lib.hid (chg_new (Below.refl _ _) hch); have HX9 := Lib.hid (new_blk (Below.refl _ _) hx2); clear hx hch hx2)
      | (at_builtin; refine wpList_append' rfl (.tmp 93) (.tmp 94) el_u8 rfl rfl rfl HO9.out (by simp) ((HB.out.below HQ.out).below HC9.out) (one_cb ys) (by unfold maxLen; omega) (by omega) ?_; intro yo yc w10 hx hch _ hx2; have hb10 := chg_on HC9.out hch HC9.out.size HX9.out; rw [← List.map_append] at hx; have HB10 := Lib.hid hb10; have HO10 := Lib.hid hx; clear hx hch hx2 hb10))
    obtain ⟨_, _, f6, _, _⟩ := F.out
    obtain ⟨ft, v, fa, fx⟩ := f6 hm'
    have ho8 := HXO.out.keep (Chg.of_below HB10.out (fun _ => False)) (fun _ _ h => h)
    obtain ⟨pb, poff, rfl, _⟩ := ho8.row (by intro q; have := congrArg List.length q; rw [List.length_map, F1.out, List.length_nil] at this; omega)
    obtain ⟨yb, yoff, rfl, _⟩ := HO10.out.row (by intro q; have := congrArg List.length q; rw [List.length_map, List.length_append, List.length_nil] at this; omega)
    rw [F1.out] at ho8
    obtain ⟨v1, e1, c1, _⟩ := own_at (k := M - 1) ho8 (by rw [F1.out]; omega)
    obtain ⟨v2, e2, c2, _⟩ := own_at (k := M - 1) HO10.out (by simp; omega)
    rw [fx] at e1
    rw [fa] at e2
    cases e1
    cases e2
    have hcy : M - 1 ≤ yc := by have := HO10.out.le; omega
    have K3 := Lib.hid (show Bts w10 (some ⟨pb, poff, none⟩) ((xs ++ ys).take (M - 1)) from ft ▸ (ho8.bts.take (M - 1)))
    have K4 := Lib.hid (HO10.out.bts.take (M - 1))
    have HB11 := Lib.hid (HQ.out.trans (HB10.out.mono HQ.out.size))
    clear ho8 ft fa fx f6
    generalize hu : v ^^^ bitOf bit = u at c1
    have HU := Lib.hid hu
    clear hu
    have q1 : (M : Int) - 1 = ((M - 1 : Nat) : Int) := by omega
    have Q := Lib.hid q1
    clear q1
    have E2 := IntWalk.i64_in ((M : Int) - 1) (by omega)
    have E3 : ((M : Int) - 1).toNat = M - 1 := by omega
    have E4 : (0 : Int) ≤ (M : Int) - 1 := by omega
    have E5 : (M : Int) - 1 < (M : Int) := by omega
    have E6 : (M : Int) - 1 < (xs.length : Int) + (ys.length : Int) := by omega
    go_quiet (fail)
    go_wp2
    rw [xor8, ← HU.out, xor_back]
    have k3 := fun m => conv_bytes ((w10.drewN nq).drewN m) Try.underlying22 Try.underlying5 Try.underlying9 (some ⟨pb, poff, none⟩) (M - 1) cap ((xs ++ ys).take (M - 1)) (by simp; omega) ((K3.out.drewN nq).drewN m)
    have k4 := fun m => conv_bytes ((w10.drewN nq).drewN m) Try.underlying22 Try.underlying5 Try.underlying9 (some ⟨yb, yoff, none⟩) (M - 1) yc ((xs ++ ys).take (M - 1)) (by simp; omega) ((K4.out.drewN nq).drewN m)
    have HB12 := Lib.hid (below_drewN HB11.out nq)
    clear c1 c2
    generalize w10.drewN nq = w11 at *
    have g1 := bit_and bit
    have g2 := bit_ne bit
    have E7 := IntKind.wrap_u8 (((bitOf bit).toNat : Int) - 1)
    have hc3 : M - 1 ≤ cap := by omega
    have E8 : (M : Int) - 1 ≤ (cap : Int) := by omega
    have E9 : (M : Int) - 1 ≤ (yc : Int) := by omega
    by_cases hb1 : 0 ≤ bit
    · by_cases hb2 : bit < 8
      · have g3 : (decide (0 ≤ bit) && decide (bit < 8)) = true := by simp [hb1, hb2]
        rw [g3] at g2
        have G3 := Lib.hid g3
        clear g3
        have g5 : decide (0 ≤ bit) = true := by simpa using hb1
        have g6 : decide (bit < 8) = true := by simpa using hb2
        go_quiet (fail)
        go_wp2
        go_ret
        exact ⟨rfl, below_drewN HB12.out _⟩
      · have g3 : (decide (0 ≤ bit) && decide (bit < 8)) = false := by simp; omega
        rw [g3] at g2
        have G3 := Lib.hid g3
        clear g3
        have g5 : decide (0 ≤ bit) = true := by simpa using hb1
        have g6 : decide (bit < 8) = false := by simpa using hb2
        go_quiet (fail)
        go_wp2
        go_ret
        exact ⟨rfl, below_drewN HB12.out _⟩
    · have g3 : (decide (0 ≤ bit) && decide (bit < 8)) = false := by simp; omega
      rw [g3] at g2
      have G3 := Lib.hid g3
      clear g3
      have g5 : decide (0 ≤ bit) = false := by simpa using hb1
      go_quiet (fail)
      go_wp2
      go_ret
      exact ⟨rfl, below_drewN HB12.out _⟩
theorem diskSure_in (W : World) (base : Nat) (v0 v1 v2 v3 : Value) (k0 : Value.okWide Try.prog W .any base 22 v0) (k1 : Value.okWide Try.prog W .any base 22 v1) (k2 : Value.okWide Try.prog W .any base 3 v2) (k3 : Value.okWide Try.prog W .any base 3 v3)
    (r0 : Rd Try.prog W 22 v0.cells.toList) (r1 : Rd Try.prog W 22 v1.cells.toList) (r2 : Rd Try.prog W 3 v2.cells.toList) (r3 : Rd Try.prog W 3 v3.cells.toList) :
    Calls Try.prog 3 #[v0, v1, v2, v3] W fun e w' => e = .returned (.bool true) ∧ Below W.heap.size W w' := by
  obtain ⟨ao, xs, c, rfl, ha⟩ := in_bytes Try.underlying22 Try.underlying5 (by kernel_rfl) k0 r0
  obtain ⟨bo, ys, d, rfl, hb⟩ := in_bytes Try.underlying22 Try.underlying5 (by kernel_rfl) k1 r1
  obtain ⟨n, rfl, h1, h2⟩ := in_i64 Try.underlying3 k2 r2
  obtain ⟨m, rfl, h3, h4⟩ := in_i64 Try.underlying3 k3 r3
  exact diskSure_walk _ _ _ _ _ _ _ _ _ ha hb ⟨h1, h2⟩
end Go.Proofs.Ytmbmahkdhpfahaa
