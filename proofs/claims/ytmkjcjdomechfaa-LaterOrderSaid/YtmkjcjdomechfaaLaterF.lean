/-
  THE LAW LaterMany OF LAYER 19, WALKED.
-/
import Derived.Test.YtmkjcjdomechfaaLaterE
namespace Go.Proofs.Ytmkjcjdomechfaa
open Go Go.RowKit

theorem dropL_true {l : List Wt} {a b : Nat} (h : ∃ e ∈ l, e.is a b = true) : (dropL l a b).2 = true ∧ (dropL l a b).1.length + 1 = l.length := by
  induction l with
  | nil => obtain ⟨e, he, _⟩ := h; cases he
  | cons x l ih =>
    rw [dropL]
    by_cases hx : x.is a b = true
    · rw [if_pos hx]; exact ⟨rfl, rfl⟩
    · rw [if_neg hx]
      obtain ⟨e, he, h2⟩ := h
      rcases List.mem_cons.1 he with rfl | he
      · exact absurd h2 hx
      · obtain ⟨h3, h4⟩ := ih ⟨e, he, h2⟩
        exact ⟨h3, by simp [h4]⟩
theorem dropL_mem {l : List Wt} {a b : Nat} {x : Wt} (h : x ∈ l) (hx : x.is a b = false) : x ∈ (dropL l a b).1 := by
  induction l with
  | nil => cases h
  | cons y l ih =>
    rw [dropL]
    by_cases hy : y.is a b = true
    · rw [if_pos hy]
      rcases List.mem_cons.1 h with rfl | h
      · rw [hx] at hy; cases hy
      · exact h
    · rw [if_neg hy]
      rcases List.mem_cons.1 h with rfl | h
      · exact List.mem_cons_self
      · exact List.mem_cons_of_mem _ (ih h)
theorem due_allOut {l : List Wt} {now : Nat} (h : ∀ e ∈ l, e.at_ ≤ now) : dueOut l now = l ∧ dueRest l now = [] := by
  obtain ⟨h1, h2⟩ := while_eq (l := l) (now := now) (k := l.length) (fun e he => h e (List.mem_of_mem_take he)) (.inl rfl)
  rw [List.take_length] at h1
  rw [List.drop_length] at h2
  exact ⟨h1, h2⟩
def many (k : Nat) : List Wt := (List.range k).map (fun i => ⟨i, 5, i⟩)
theorem many_len (k : Nat) : (many k).length = k := by simp [many]
theorem many_mem {k : Nat} {x : Wt} : x ∈ many k ↔ ∃ i, i < k ∧ x = ⟨i, 5, i⟩ := by
  simp [many, eq_comm]
theorem put_many {k : Nat} (h : k < 256) : putL (many k) 5 k k = (many (k + 1), 0) := by
  have h1 : dropL (many k) 5 k = (many k, false) := dropL_none (fun e he => by
    obtain ⟨i, hi, rfl⟩ := many_mem.1 he
    simp [Wt.is]; omega)
  unfold putL
  rw [if_neg (by omega), h1, if_neg (by rw [many_len]; omega)]
  rw [insL_at (i := k) (by rw [many_len]; exact Nat.le_refl _) (fun j x hj hx => ?_) (fun j x hj hx => ?_)]
  · rw [List.take_of_length_le (by rw [many_len]; exact Nat.le_refl _), List.drop_of_length_le (by rw [many_len]; exact Nat.le_refl _)]
    simp [many, List.range_succ]
  · obtain ⟨i, hi, rfl⟩ := many_mem.1 (List.mem_of_getElem? hx)
    rw [wtOrd_neg]
    exact .inl hi
  · have := (List.getElem?_eq_some_iff.1 hx).1
    rw [many_len] at this
    omega
/-- What a list of as many as may be is behind one more Put. -/
structure Full (l : List Wt) : Prop where
  len : l.length = 256
  seven : ∃ e ∈ l, e.is 5 7 = true
  at_ : ∀ e ∈ l, e.at_ ≤ 18446744073709551615
theorem full_many : Full (many 256) := ⟨many_len 256, ⟨⟨7, 5, 7⟩, many_mem.2 ⟨7, by decide, rfl⟩, rfl⟩, fun e he => by obtain ⟨i, hi, rfl⟩ := many_mem.1 he; dsimp only; omega⟩
theorem put_full {at_ a b : Nat} (hat : at_ ≤ 18446744073709551615) : Full (putL (many 256) a b at_).1 ∧ (putL (many 256) a b at_).2 = if 1099511627776 < at_ then 63 else if a = 5 ∧ b < 256 then 0 else 14 := by
  unfold putL
  by_cases h1 : 1099511627776 < at_
  · rw [if_pos h1, if_pos h1]; exact ⟨full_many, rfl⟩
  · rw [if_neg h1, if_neg h1]
    by_cases h2 : a = 5 ∧ b < 256
    · obtain ⟨rfl, hb⟩ := h2
      have hin : ∃ e ∈ many 256, e.is 5 b = true := ⟨⟨b, 5, b⟩, many_mem.2 ⟨b, hb, rfl⟩, by simp [Wt.is]⟩
      obtain ⟨_, hl⟩ := dropL_true hin
      rw [many_len] at hl
      rw [if_neg (by omega), if_pos ⟨rfl, hb⟩]
      refine ⟨⟨by rw [insL_len]; omega, ?_, fun e he => ?_⟩, rfl⟩
      · by_cases hb7 : b = 7
        · subst hb7
          exact ⟨_, insL_mem.2 (.inl rfl), rfl⟩
        · exact ⟨⟨7, 5, 7⟩, insL_mem.2 (.inr (dropL_mem (many_mem.2 ⟨7, by decide, rfl⟩) (by simp [Wt.is]; omega))), rfl⟩
      · rcases insL_mem.1 he with rfl | he
        · exact hat
        · exact full_many.at_ e ((dropL_sub _ _ _).subset he)
    · have hno : dropL (many 256) a b = (many 256, false) := dropL_none (fun e he => by
        obtain ⟨i, hi, rfl⟩ := many_mem.1 he
        simp [Wt.is]; omega)
      rw [hno, if_pos (by rw [many_len]; exact Nat.le_refl _), if_neg h2]
      exact ⟨full_many, rfl⟩
theorem full_tail {l : List Wt} (h : Full l) : dropL l 5 7 = ((dropL l 5 7).1, true) ∧ dueOut (dropL l 5 7).1 18446744073709551615 = (dropL l 5 7).1 ∧ dueRest (dropL l 5 7).1 18446744073709551615 = [] ∧ (dropL l 5 7).1.length = 255 := by
  obtain ⟨h1, h2⟩ := dropL_true h.seven
  obtain ⟨h3, h4⟩ := due_allOut (l := (dropL l 5 7).1) (now := 18446744073709551615) (fun e he => h.at_ e ((dropL_sub _ _ _).subset he))
  exact ⟨Prod.ext rfl h1, h3, h4, by have := h.len; omega⟩
theorem all_n (w0 : World) (p : Nat) (l : List Wt) (F : List Nat) (N : Nat) (w : World) (h : ListIn w0 w p l F) (hN : l.length = N) :
    Calls Try.prog 17 #[.pointer (some ⟨p, 0, none⟩)] w fun e w' => ∃ xo xc, e = .returned (.slice xo N xc) ∧ Below w.heap.size w w' := by
  subst hN
  refine (all_any p l F w h.list (Nat.le_trans h.fine.len (by decide))).mono ?_
  rintro e w' ⟨xo, xc, rfl, hb, _⟩
  exact ⟨xo, xc, rfl, hb⟩
set_option maxHeartbeats 4000000 in
set_option maxRecDepth 100000 in
theorem laterMany_any (at_ a b : Nat) (w : World) (hat : at_ < 18446744073709551616) :
    Calls Try.prog 5 #[.int .u64 (at_ : Int), .agg #[.int .u64 (a : Int), .int .u64 (b : Int)]] w fun e w' => e = .returned (.bool true) ∧ Below w.heap.size w w' := by
  have hT := heap_top w (.cells #[.int .u64 (a : Int), .int .u64 (b : Int)] 32)
  have HB := Lib.hid (And.intro ((Below.refl _ w).alloc (Nat.le_refl _) (.cells #[.int .u64 (a : Int), .int .u64 (b : Int)] 32)) hT)
  clear hT
  obtain ⟨hfull, hcode⟩ := put_full (at_ := at_) (a := a) (b := b) (by omega)
  have HFC := Lib.hid (And.intro hfull hcode)
  clear hfull hcode
  go_enter Try.func5, Try.ntmps5
  go_wp2_with fail
  (with_reducible refine (awake _).mono ?_)
  rintro e1 w1 ⟨rfl, hb1⟩
  have H1 := Lib.hid (And.intro (HB.out.1.trans (hb1.mono HB.out.1.size)) ((Chg.of_below hb1 (fun _ => False)).heap HB.out.2 (fun h => h)))
  clear hb1
  go_wp2_with fail
  (with_reducible refine (new_in w _ H1.out.1).mono ?_)
  rintro e2 w2 ⟨p, rfl, hb2, hn2, hp2⟩
  have H2 := Lib.hid (And.intro hn2 (And.intro ((Chg.of_below hb2 (fun _ => False)).heap H1.out.2 (fun h => h)) (show w.heap.size ∉ [p] by
    rw [List.mem_singleton]
    have := heap_lt H1.out.2
    omega)))
  clear hb2 hn2 hp2
  go_wp2
  go_loopg [12] 256 (fun g v wr => ∃ (k : Nat) (F : List Nat), g + k = 256 ∧ v = .int .i64 k ∧ ListIn w wr p (many k) F ∧ wr.heap[w.heap.size]? = some (.cells #[.int .u64 (a : Int), .int .u64 (b : Int)] 32 (0, 0)) ∧ w.heap.size ∉ F)
  case atStart => exact ⟨0, [p], rfl, rfl, H2.out⟩
  case round =>
    clear H2 H1
    obtain ⟨k, F, hg, rfl, hl, hT, hTF⟩ := hrel
    by_cases hk : k < 256
    · have hki : (k : Int) < 256 := by omega
      have hku := IntWalk.u64_in (k : Int) (by omega)
      have HR := Lib.hid (And.intro hl (And.intro hT hTF))
      have HPM := Lib.hid (put_many hk)
      clear hl hT hTF
      go_wp2_with fail
      (with_reducible refine (put_in w p _ _ F 5 (k : Int) (k : Int) 0 5 k k _ HR.out.1 rfl rfl rfl HPM.out).mono ?_)
      rintro e3 w3 ⟨rfl, F3, hn3, hc3, hg3⟩
      have H3 := Lib.hid (And.intro hn3 (And.intro (hc3.heap HR.out.2.1 HR.out.2.2) (fun h => by
        rcases hg3 _ h with h | h
        · exact HR.out.2.2 h
        · have := heap_lt HR.out.2.1; omega : w.heap.size ∉ F3)))
      clear hn3 hc3 hg3
      go_wp2
      go_roundg (gk - 1)
      case measure => omega
      case rel => exact ⟨k + 1, F3, by omega, by go_num, H3.out⟩
    · obtain rfl : k = 256 := by omega
      obtain ⟨z0, z1, _⟩ := cells2 hT
      have HR := Lib.hid (And.intro hl (And.intro hT hTF))
      clear hl hT hTF hg hk
      obtain ⟨L', hL'⟩ : ∃ L', (putL (many 256) a b at_).1 = L' := ⟨_, rfl⟩
      have HF := Lib.hid (show Full L' by rw [← hL']; exact HFC.out.1)
      have HD := Lib.hid (full_tail HF.out)
      by_cases h1 : 1099511627776 < at_
      · have HPC := Lib.hid (show putL (many 256) a b at_ = (L', 63) by rw [← hL']; exact Prod.ext rfl (by rw [HFC.out.2, if_pos h1]))
        have h1i : (1099511627776 : Int) < (at_ : Int) := by omega
        clear hL'
        as_aux_lemma =>
          go_wp2_with fail
          (with_reducible refine (put_in w p _ _ F (a : Int) (b : Int) (at_ : Int) 63 a b at_ _ HR.out.1 rfl rfl rfl HPC.out).mono ?_)
          rintro e3 w3 ⟨rfl, F3, hn3, hc3, hg3⟩
          obtain ⟨y0, y1, _⟩ := cells2 (hc3.heap HR.out.2.1 HR.out.2.2)
          have H3 := Lib.hid hn3
          clear hn3 hc3 hg3
          go_wp2_with fail
          (with_reducible refine (all_n w p L' F3 256 _ H3.out HF.out.len).mono ?_)
          rintro e4 w4 ⟨xo, xc, rfl, hb4⟩
          have H4 := Lib.hid (H3.out.stays hb4)
          clear hb4
          go_wp2_with fail
          (with_reducible refine (drop_in w p L' _ F3 5 7 true 5 7 _ H4.out rfl rfl HD.out.1).mono ?_)
          rintro e5 w5 ⟨rfl, F5, hn5, _, _⟩
          have H5 := Lib.hid hn5
          clear hn5
          go_wp2_with fail
          (with_reducible refine (due_in w p _ _ _ 255 F5 18446744073709551615 18446744073709551615 _ H5.out rfl HD.out.2.1 HD.out.2.2.1 HD.out.2.2.2).mono ?_)
          rintro e6 w6 ⟨uo, uc, rfl, _, _, F6, hn6, _, _⟩
          have H6 := Lib.hid hn6
          clear hn6
          go_wp2
          go_ret
          exact ⟨rfl, H6.out.below⟩
      · have h1i : decide ((1099511627776 : Int) < (at_ : Int)) = false := decide_eq_false (by omega)
        have h1j : ¬ (1099511627776 : Int) < (at_ : Int) := by omega
        by_cases ha : a = 5
        · by_cases hb : b < 256
          · have HPC := Lib.hid (show putL (many 256) a b at_ = (L', 0) by rw [← hL']; exact Prod.ext rfl (by rw [HFC.out.2, if_neg h1, if_pos ⟨ha, hb⟩]))
            have hai : ((a : Int) == 5) = true := by simp; omega
            have hbi : (b : Int) < 256 := by omega
            clear hL' ha
            as_aux_lemma =>
              go_wp2_with fail
              (with_reducible refine (put_in w p _ _ F (a : Int) (b : Int) (at_ : Int) 0 a b at_ _ HR.out.1 rfl rfl rfl HPC.out).mono ?_)
              rintro e3 w3 ⟨rfl, F3, hn3, hc3, hg3⟩
              obtain ⟨y0, y1, _⟩ := cells2 (hc3.heap HR.out.2.1 HR.out.2.2)
              have H3 := Lib.hid hn3
              clear hn3 hc3 hg3
              go_wp2_with fail
              (with_reducible refine (all_n w p L' F3 256 _ H3.out HF.out.len).mono ?_)
              rintro e4 w4 ⟨xo, xc, rfl, hb4⟩
              have H4 := Lib.hid (H3.out.stays hb4)
              clear hb4
              go_wp2_with fail
              (with_reducible refine (drop_in w p L' _ F3 5 7 true 5 7 _ H4.out rfl rfl HD.out.1).mono ?_)
              rintro e5 w5 ⟨rfl, F5, hn5, _, _⟩
              have H5 := Lib.hid hn5
              clear hn5
              go_wp2_with fail
              (with_reducible refine (due_in w p _ _ _ 255 F5 18446744073709551615 18446744073709551615 _ H5.out rfl HD.out.2.1 HD.out.2.2.1 HD.out.2.2.2).mono ?_)
              rintro e6 w6 ⟨uo, uc, rfl, _, _, F6, hn6, _, _⟩
              have H6 := Lib.hid hn6
              clear hn6
              go_wp2
              go_ret
              exact ⟨rfl, H6.out.below⟩
          · have HPC := Lib.hid (show putL (many 256) a b at_ = (L', 14) by rw [← hL']; exact Prod.ext rfl (by rw [HFC.out.2, if_neg h1, if_neg (fun h => hb h.2)]))
            have hai : ((a : Int) == 5) = true := by simp; omega
            have hbi : decide ((b : Int) < 256) = false := decide_eq_false (by omega)
            have hbj : ¬ (b : Int) < 256 := by omega
            clear hL' ha
            as_aux_lemma =>
              go_wp2_with fail
              (with_reducible refine (put_in w p _ _ F (a : Int) (b : Int) (at_ : Int) 14 a b at_ _ HR.out.1 rfl rfl rfl HPC.out).mono ?_)
              rintro e3 w3 ⟨rfl, F3, hn3, hc3, hg3⟩
              obtain ⟨y0, y1, _⟩ := cells2 (hc3.heap HR.out.2.1 HR.out.2.2)
              have H3 := Lib.hid hn3
              clear hn3 hc3 hg3
              go_wp2_with fail
              (with_reducible refine (all_n w p L' F3 256 _ H3.out HF.out.len).mono ?_)
              rintro e4 w4 ⟨xo, xc, rfl, hb4⟩
              have H4 := Lib.hid (H3.out.stays hb4)
              clear hb4
              go_wp2_with fail
              (with_reducible refine (drop_in w p L' _ F3 5 7 true 5 7 _ H4.out rfl rfl HD.out.1).mono ?_)
              rintro e5 w5 ⟨rfl, F5, hn5, _, _⟩
              have H5 := Lib.hid hn5
              clear hn5
              go_wp2_with fail
              (with_reducible refine (due_in w p _ _ _ 255 F5 18446744073709551615 18446744073709551615 _ H5.out rfl HD.out.2.1 HD.out.2.2.1 HD.out.2.2.2).mono ?_)
              rintro e6 w6 ⟨uo, uc, rfl, _, _, F6, hn6, _, _⟩
              have H6 := Lib.hid hn6
              clear hn6
              go_wp2
              go_ret
              exact ⟨rfl, H6.out.below⟩
        · have HPC := Lib.hid (show putL (many 256) a b at_ = (L', 14) by rw [← hL']; exact Prod.ext rfl (by rw [HFC.out.2, if_neg h1, if_neg (fun h => ha h.1)]))
          have hai : ((a : Int) == 5) = false := by simp; omega
          clear hL'
          as_aux_lemma =>
            go_wp2_with fail
            (with_reducible refine (put_in w p _ _ F (a : Int) (b : Int) (at_ : Int) 14 a b at_ _ HR.out.1 rfl rfl rfl HPC.out).mono ?_)
            rintro e3 w3 ⟨rfl, F3, hn3, hc3, hg3⟩
            obtain ⟨y0, y1, _⟩ := cells2 (hc3.heap HR.out.2.1 HR.out.2.2)
            have H3 := Lib.hid hn3
            clear hn3 hc3 hg3
            go_wp2_with fail
            (with_reducible refine (all_n w p L' F3 256 _ H3.out HF.out.len).mono ?_)
            rintro e4 w4 ⟨xo, xc, rfl, hb4⟩
            have H4 := Lib.hid (H3.out.stays hb4)
            clear hb4
            go_wp2_with fail
            (with_reducible refine (drop_in w p L' _ F3 5 7 true 5 7 _ H4.out rfl rfl HD.out.1).mono ?_)
            rintro e5 w5 ⟨rfl, F5, hn5, _, _⟩
            have H5 := Lib.hid hn5
            clear hn5
            go_wp2_with fail
            (with_reducible refine (due_in w p _ _ _ 255 F5 18446744073709551615 18446744073709551615 _ H5.out rfl HD.out.2.1 HD.out.2.2.1 HD.out.2.2.2).mono ?_)
            rintro e6 w6 ⟨uo, uc, rfl, _, _, F6, hn6, _, _⟩
            have H6 := Lib.hid hn6
            clear hn6
            go_wp2
            go_ret
            exact ⟨rfl, H6.out.below⟩
theorem in_u64 {P : Program} {w : World} {r : Reach} {base : Nat} {t : TypeId} {v : Value} (hu : P.underlying t = some (.int .u64)) (hk : Value.okWide P w r base t v) (h : Rd P w t v.cells.toList) :
    ∃ n : Nat, v = .int .u64 (n : Int) ∧ n < 18446744073709551616 := by
  obtain ⟨n, rfl, h1⟩ := in_int hu hk h
  simp [IntKind.min, IntKind.max, IntKind.signed, IntKind.bits] at h1
  exact ⟨n.toNat, by congr 1; omega, by omega⟩
theorem laterMany_in (W : World) (base : Nat) (v0 v1 : Value) (k0 : Value.okWide Try.prog W .any base 30 v0) (k1 : Value.okWide Try.prog W .any base 32 v1) (r0 : Rd Try.prog W 30 v0.cells.toList) (r1 : Rd Try.prog W 32 v1.cells.toList) :
    Calls Try.prog 5 #[v0, v1] W fun e w' => e = .returned (.bool true) ∧ Below W.heap.size W w' := by
  obtain ⟨at_, rfl, hat⟩ := in_u64 Try.underlying30 k0 r0
  obtain ⟨cs, rfl, hcs⟩ := in_struct Try.underlying32 k1
  rw [hcs] at r1
  obtain ⟨a, b, rfl, _, _⟩ := pos_rd r1
  exact laterMany_any at_ a b W hat
end Go.Proofs.Ytmkjcjdomechfaa
