/-
  THE LAW LaterOrder OF LAYER 19, WALKED.
-/
import Derived.Test.YtmkjcjdomechfaaLaterO
import Derived.Deep.RegionHeld3
import Derived.Deep.CutBlock
namespace Go.Proofs.Ytmkjcjdomechfaa
open Go Go.RowKit Go.WideShapes Go.Maps

/-- The list, and the map M beside it. -/
structure Two (w0 w : World) (p M : Nat) (lm l : List Wt) (F : List Nat) (n : Nat) (D : DataW Unit) : Prop where
  a : ListIn w0 w p l F
  m : MapAt w M n D
  rep : Rep D lm
  mf : M ∉ F
  mnew : w0.heap.size ≤ M
section
variable {w0 w w' : World} {p M n n' T : Nat} {l l' lm lm' : List Wt} {F F' : List Nat} {D D' : DataW Unit} {o : Obj} {la : Wt}
theorem Two.stays (h : Two w0 w p M lm l F n D) (hb : Below w.heap.size w w') : Two w0 w' p M lm l F n D :=
  ⟨h.a.stays hb, h.m.keep (Chg.of_below hb (fun _ => False)) (fun h => h), h.rep, h.mf, h.mnew⟩
theorem Two.box (h : Two w0 w p M lm l F n D) (o : Obj) : Two w0 (w.alloc o) p M lm l F n D := h.stays ((Below.refl _ w).alloc (Nat.le_refl _) o)
theorem Two.step (h : Two w0 w p M lm l F n D) (h1 : ListIn w0 w' p l' F') (h2 : Chg (· ∈ F) w w') (h3 : ∀ k ∈ F', k ∈ F ∨ w.heap.size ≤ k) : Two w0 w' p M lm l' F' n D :=
  ⟨h1, h.m.keep h2 h.mf, h.rep, fun hk => (h3 M hk).elim h.mf (fun h' => by have := h.m.lt; omega), h.mnew⟩
theorem Two.map (h : Two w0 w p M lm l F n D) (h1 : MapAt w' M n' D') (h2 : w.mapTurned w' M) (h3 : Rep D' lm') : Two w0 w' p M lm' l F n' D' :=
  ⟨h.a.keep (turned_chg h2) (fun k hk e => h.mf (e ▸ hk)) (fun k e => e ▸ h.mnew), h1, h3, h.mf, h.mnew⟩
theorem Two.cell (h : Two w0 w p M lm l F n D) {S : Nat → Prop} (hc : Chg S w w') (hF : ∀ k ∈ F, ¬ S k) (hM : ¬ S M) (hS : ∀ k, S k → w0.heap.size ≤ k) : Two w0 w' p M lm l F n D :=
  ⟨h.a.keep hc hF hS, h.m.keep hc hM, h.rep, h.mf, h.mnew⟩
end
/-- .. and the last place told, in a box at T. -/
structure Three (w0 w : World) (p M T : Nat) (lm l : List Wt) (F : List Nat) (n : Nat) (D : DataW Unit) (la : Wt) : Prop extends Two w0 w p M lm l F n D where
  box : w.heap[T]? = some (.cells #[.int .u64 (la.at_ : Int), .int .u64 (la.led : Int), .int .u64 (la.ent : Int)] 45 (0, 0))
  tf : T ∉ F
  tm : T ≠ M
  tnew : w0.heap.size ≤ T
  lt : la = ⟨0, 0, 0⟩ ∨ ∀ e ∈ lm, la.lt e
  fine : Fine lm
section
variable {w0 w w' : World} {p M n n' T : Nat} {l l' lm lm' : List Wt} {F F' : List Nat} {D D' : DataW Unit} {la x : Wt}
theorem Three.stays (h : Three w0 w p M T lm l F n D la) (hb : Below w.heap.size w w') : Three w0 w' p M T lm l F n D la :=
  ⟨h.toTwo.stays hb, (Chg.of_below hb (fun _ => False)).heap h.box (fun h => h), h.tf, h.tm, h.tnew, h.lt, h.fine⟩
theorem Three.step (h : Three w0 w p M T lm l F n D la) (h1 : ListIn w0 w' p l' F') (h2 : Chg (· ∈ F) w w') (h3 : ∀ k ∈ F', k ∈ F ∨ w.heap.size ≤ k) : Three w0 w' p M T lm l' F' n D la :=
  ⟨h.toTwo.step h1 h2 h3, h2.heap h.box h.tf, fun hk => (h3 T hk).elim h.tf (fun h' => by have := heap_lt h.box; omega), h.tm, h.tnew, h.lt, h.fine⟩
theorem Three.map (h : Three w0 w p M T lm l F n D la) (h1 : MapAt w' M n' D') (h2 : w.mapTurned w' M) (h3 : Rep D' lm') (hs : ∀ e ∈ lm', e ∈ lm) (hf : Fine lm') : Three w0 w' p M T lm' l F n' D' la :=
  ⟨h.toTwo.map h1 h2 h3, (turned_chg h2).heap h.box h.tm, h.tf, h.tm, h.tnew, h.lt.imp id (fun h e he => h e (hs e he)), hf⟩
theorem Three.told (h : Three w0 w p M T lm l F n D la) (hx : ∀ e ∈ lm, x.lt e) :
    Three w0 (((w.setCell ⟨T, 0, none⟩ (.int .u64 (x.at_ : Int))).setCell ⟨T, 1, none⟩ (.int .u64 (x.led : Int))).setCell ⟨T, 2, none⟩ (.int .u64 (x.ent : Int))) p M T lm l F n D x := by
  have g := heap_set (heap_set (heap_set h.box 0 (.int .u64 (x.at_ : Int))) 1 (.int .u64 (x.led : Int))) 2 (.int .u64 (x.ent : Int))
  simp only [List.setIfInBounds_toArray, List.set_cons_zero, List.set_cons_succ] at g
  have hch : Chg (fun j => j = T) w (((w.setCell ⟨T, 0, none⟩ (.int .u64 (x.at_ : Int))).setCell ⟨T, 1, none⟩ (.int .u64 (x.led : Int))).setCell ⟨T, 2, none⟩ (.int .u64 (x.ent : Int))) :=
    (((Chg.refl (fun j => j = T) w).set (p := T) rfl 0 _).set (p := T) rfl 1 _).set (p := T) rfl 2 _
  exact ⟨h.toTwo.cell hch (fun k hk e => h.tf (e ▸ hk)) (fun e => h.tm e.symm) (fun k e => e ▸ h.tnew), g, h.tf, h.tm, h.tnew, .inr hx, h.fine⟩
end
theorem Two.three {w0 w : World} {p M n : Nat} {l : List Wt} {F : List Nat} {D : DataW Unit} (h : Two w0 w p M l l F n D) : Three w0 (w.alloc (.cells #[.int .u64 0, .int .u64 0, .int .u64 0] 45)) p M w.heap.size l l F n D ⟨0, 0, 0⟩ :=
  ⟨h.box _, heap_top w _, fun hk => Nat.lt_irrefl _ (h.a.list.lt _ hk), fun e => by have := h.m.lt; omega, h.a.below.size, .inl rfl, h.a.fine⟩
def WtIs (t : Wt) (cs : List Value) : Prop := cs = [.int .u64 (t.at_ : Int), .int .u64 (t.led : Int), .int .u64 (t.ent : Int)] ∧ t.led < 18446744073709551616 ∧ t.ent < 18446744073709551616
theorem wt_rd {w : World} {cs : List Value} (h : Rd Try.prog w 45 cs) : ∃ t, WtIs t cs := by
  have hu := Try.underlying45
  obtain ⟨c0, c1, c2, rfl⟩ := list3 ((h.struct hu).1.trans (by kernel_rfl))
  obtain ⟨a, e1, h1⟩ := (h.field hu 0 rfl (n := 1) (by kernel_rfl)).u64 Try.underlying30
  obtain ⟨b, c, e2, h2, h3⟩ := pos_rd (h.field hu 1 rfl (n := 2) (by kernel_rfl))
  simp at e1 e2
  obtain ⟨e2, e3⟩ := e2
  subst e1 e2 e3
  exact ⟨⟨a, b, c⟩, rfl, h2, h3⟩
theorem fst_of {l : List Wt} {a b t : Nat} (ht : t < 300) (hl : l.length < 256) : putL l a b t = (insL (dropL l a b).1 ⟨t, a, b⟩, 0) := by
  have hd := dropL_len l a b
  unfold putL
  rw [if_neg (by omega), if_neg (by omega)]
theorem wt_of {w : World} {po : Option Addr} {ps : List Wt} {k : Nat} (h : RowOf w po 3 WtIs ps) (hk : k < ps.length) : ∃ (b off : Nat) (x : Wt), po = some ⟨b, off, none⟩ ∧ x.led < 18446744073709551616 ∧ x.ent < 18446744073709551616 ∧ ∀ w', Below w.heap.size w w' → w'.cell? ⟨b, off + k * 3, none⟩ = some (.int .u64 (x.at_ : Int)) ∧ w'.cell? ⟨b, off + k * 3 + 1, none⟩ = some (.int .u64 (x.led : Int)) ∧ w'.cell? ⟨b, off + k * 3 + 2, none⟩ = some (.int .u64 (x.ent : Int)) := by
  obtain ⟨zb, zoff, rfl, hz1⟩ := h (by omega)
  obtain ⟨es, hes, ⟨rfl, hx1, hx2⟩, hcell⟩ := hz1 k hk
  refine ⟨zb, zoff, ps[k], rfl, hx1, hx2, fun w' hb => ?_⟩
  have hC := Chg.of_below hb (fun _ => False)
  have c0 := hC.cell (hcell 0 _ rfl) (fun h => h)
  have c1 := hC.cell (hcell 1 _ rfl) (fun h => h)
  have c2 := hC.cell (hcell 2 _ rfl) (fun h => h)
  simp only [Nat.add_zero] at c0
  exact ⟨c0, c1, c2⟩
theorem order_int (A B : Int) (a b c d : Nat) (w : World) (hA : A = (a : Int)) (hB : B = (b : Int)) : Calls Try.prog 18 #[.agg #[.int .u64 A, .int .u64 B], .agg #[.int .u64 (c : Int), .int .u64 (d : Int)]] w fun e w' => e = .returned (.int .i64 (posOrd a b c d)) ∧ Below w.heap.size w w' := by
  subst hA; subst hB; exact order_pos a b c d w
theorem fine_tail {x : Wt} {l : List Wt} (h : (x :: l).length ≤ 256) : l.length ≤ 256 := by simp only [List.length_cons] at h; omega
theorem num1 (j : Nat) (h : j < 4096) : (.int .i64 (wrap64 ((j : Int) + 1)) : Value) = .int .i64 ((j + 1 : Nat) : Int) := by rw [IntWalk.wrap64_in _ (by omega)]; rfl
theorem told_at {w0 w : World} {p M n T : Nat} {l lm : List Wt} {F : List Nat} {D : DataW Unit} {la : Wt} (x0 x1 x2 : Nat) (h : Three w0 w p M T lm l F n D la) (hx : ∀ e ∈ lm, Wt.lt ⟨x0, x1, x2⟩ e) :
    Three w0 (((w.setCell ⟨T, 0, none⟩ (.int .u64 (x0 : Int))).setCell ⟨T, 1, none⟩ (.int .u64 (x1 : Int))).setCell ⟨T, 2, none⟩ (.int .u64 (x2 : Int))) p M T lm l F n D ⟨x0, x1, x2⟩ := h.told (x := ⟨x0, x1, x2⟩) hx
theorem told_chg {S : Nat → Prop} {a w : World} (h : Chg S a w) {T : Nat} (hT : S T) (u0 u1 u2 : Value) : Chg S a (((w.setCell ⟨T, 0, none⟩ u0).setCell ⟨T, 1, none⟩ u1).setCell ⟨T, 2, none⟩ u2) := ((h.set hT 0 _).set hT 1 _).set hT 2 _
theorem due_split (l : List Wt) (now : Nat) : dueOut l now ++ dueRest l now = l := List.takeWhile_append_dropWhile
theorem due_le (l : List Wt) (now : Nat) : ∀ e ∈ dueOut l now, e.at_ ≤ now := fun e he => by
  have h : ∀ (l : List Wt), e ∈ l.takeWhile (fun e => decide (e.at_ ≤ now)) → e.at_ ≤ now := by
    intro l
    induction l with
    | nil => simp
    | cons x l ih =>
      rw [List.takeWhile_cons]
      split
      · rename_i hx
        intro h
        rcases List.mem_cons.1 h with rfl | h
        · simpa using hx
        · exact ih h
      · simp
  exact h l he
set_option maxHeartbeats 8000000 in
set_option maxRecDepth 100000 in
theorem laterOrder_any (po : Option Addr) (m d : Nat) (ps : List Wt) (so : Option Addr) (n2 d2 : Nat) (ss : List UInt8) (w : World) (hpl : ps.length = m) (hp : RowOf w po 3 WtIs ps) (hpm : m ≤ maxLen) (hsl : ss.length = n2) (hs : Bts w so ss) (hsm : n2 ≤ maxLen) :
    Calls Try.prog 4 #[.slice po m d, .slice so n2 d2] w fun e w' => e = .returned (.bool true) ∧ Below w.heap.size w w' := by
  have HH := Lib.hid (And.intro hpl (And.intro hp (And.intro hsl hs)))
  clear hpl hp hsl hs
  unfold maxLen at hpm hsm
  have hmm := @run_makeMap Try.prog
  go_enter Try.func4, Try.ntmps4
  go_wp2_with fail
  (with_reducible refine (awake _).mono ?_)
  rintro e1 w1 ⟨rfl, hw⟩
  have HW := Lib.hid hw
  clear hw
  go_wp2_with fail
  (with_reducible refine (new_in w _ HW.out).mono ?_)
  rintro e2 w2 ⟨p, rfl, _, hn2, _⟩
  have H3 := Lib.hid (show Two w (w2.alloc (.map #[] 0)) p w2.heap.size [] [] [p] 0 (.map []) from ⟨hn2.alloc _, World.ownsMap_made _ _ _ _, Rep.nil, fun hk => by have := hn2.list.lt _ hk; omega, hn2.below.size⟩)
  clear hn2
  go_upto_block 0 with fail
  generalize w2.alloc (.map #[] 0) = wa at *
  generalize w2.heap.size = M at *
  go_cut [] (fun wx => ∃ (l : List Wt) (F : List Nat) (n : Nat) (D : DataW Unit), Two w wx p M l l F n D)
  case first =>
    -- BEGIN1
    as_aux_lemma =>
      go_wp2_with fail
      go_loopg [23] m (fun g v wr => ∃ (k n : Nat) (l : List Wt) (F : List Nat) (D : DataW Unit), g + k = m ∧ v = .int .i64 k ∧ Two w wr p M l l F n D ∧ n ≤ k ∧ l.length ≤ k ∧ k ≤ 201)
      case atStart => exact ⟨0, 0, _, _, _, by omega, rfl, H3.out, by omega, by simp, by omega⟩
      case round =>
        obtain ⟨k, n, l, F, D, hgk, rfl, htwo, hnk, hlk, hk201⟩ := hrel
        have HN := Lib.hid htwo
        clear htwo H3 HW
        by_cases hk : k < m
        · obtain ⟨zb, zoff, x, rfl, hx1, hx2, hcs⟩ := wt_of (k := k) HH.out.2.1 (by rw [HH.out.1]; exact hk)
          obtain ⟨c0, c1, c2⟩ := hcs _ HN.out.a.below
          clear hcs
          obtain ⟨x0, x1, x2⟩ := x
          dsimp only at *
          by_cases h200 : 200 < k
          · have h200i : (200 : Int) < (k : Int) := by omega
            go_wp2
            go_meet
            exact ⟨l, F, n, D, HN.out.box _⟩
          · have h200i : ¬ (200 : Int) < (k : Int) := by omega
            have HP := Lib.hid (fst_of (l := l) (a := x1) (b := x2) (t := x0 % 300) (Nat.mod_lt _ (by decide)) (by omega))
            have HB := Lib.hid (And.intro (HN.out.box (.cells #[.int .u64 (x0 : Int), .int .u64 (x1 : Int), .int .u64 (x2 : Int)] 45)) (And.intro (heap_top wr (.cells #[.int .u64 (x0 : Int), .int .u64 (x1 : Int), .int .u64 (x2 : Int)] 45)) (show wr.heap.size ∉ F from fun hk => Nat.lt_irrefl _ (HN.out.a.list.lt _ hk))))
            go_wp2_with fail
            (with_reducible refine (put_in w p l _ F (x1 : Int) (x2 : Int) ((x0 : Int) % 300) 0 x1 x2 (x0 % 300) _ HB.out.1.a rfl rfl (by omega) HP.out).mono ?_)
            rintro e3 w3 ⟨rfl, F3, h1, h2, h3⟩
            have h4 := h2.heap HB.out.2.1 HB.out.2.2
            obtain ⟨v0, v1, v2, _⟩ := cells3 h4
            have H4 := Lib.hid (HB.out.1.step h1 h2 h3)
            clear h1 h2 h3 h4
            have ht : x0 % 300 < 300 := Nat.mod_lt _ (by decide)
            have hcst : (x0 : Int) % 300 = ((x0 % 300 : Nat) : Int) := by omega
            have HCST := Lib.hid (And.intro hcst (show (Lit.int .u64 ((x0 : Int) % 300)).wf = true by rw [hcst]; exact wf64 (by omega)))
            clear hcst
            go_wp2_with (at_mapUpdate; refine wpList_mapUpdate_in _ rfl _ _ _ 48 rfl 32 30 lawPos Try.underlying48 _ M n D rfl H4.out.m (by unfold maxLen; omega) _ _ _ rfl rfl (key_of hx1 hx2) (.lit (.int .u64 ((x0 : Int) % 300))) [] (plainElem_int Try.underlying30 HCST.out.2) ?_; intro w5 hown5 hturn5; rw [HCST.out.1] at hown5; have H5 := Lib.hid (H4.out.map hown5 hturn5 (H4.out.rep.put (H4.out.m.tidy lawPos) HN.out.a.fine.once hx1 hx2 ht)); clear hown5 hturn5)
            go_roundg (gk - 1)
            case measure => omega
            case rel => exact ⟨k + 1, n + 1, _, F3, _, by omega, by go_num, H5.out, by omega, by have := dropL_len l x1 x2; rw [insL_len]; omega, by omega⟩
        · go_wp2
          go_meet
          exact ⟨l, F, n, D, HN.out⟩
    -- END1
  case rest =>
    -- BEGIN2
    as_aux_lemma =>
      obtain ⟨l, F, n, D, h1⟩ := hcut
      have H1 := Lib.hid h1.three
      clear h1 H3 HW
      obtain ⟨N, hNa, hNb, hNc⟩ : ∃ N, N ≤ n2 + 1 ∧ N ≤ 200 ∧ (N = n2 + 1 ∨ N = 200) := ⟨min (n2 + 1) 200, by omega, by omega, by omega⟩
      go_wp2
      generalize wc.alloc (.cells #[.int .u64 0, .int .u64 0, .int .u64 0] 45) = wb at *
      generalize wc.heap.size = T at *
      go_loopg [10, 12] N (fun g v10 v12 wr => ∃ (i now n : Nat) (l : List Wt) (F : List Nat) (D : DataW Unit) (la : Wt), g + i = N ∧ v10 = .int .u64 now ∧ v12 = .int .i64 i ∧ Three w wr p M T l l F n D la ∧ now < 18446744073709551616 ∧ (i = n2 + 1 → l = []))
      case atStart => exact ⟨0, 0, n, l, F, D, _, by omega, rfl, rfl, H1.out, by omega, fun h => by omega⟩
      case round =>
        clear H1
        obtain ⟨i, now, n, l, F, D, la, hgk, rfl, rfl, hthr, hnow, hlast⟩ := hrel
        obtain ⟨K0, rfl⟩ : ∃ K0, K0 = gk := ⟨_, rfl⟩
        have HN := Lib.hid (And.intro hthr hlast)
        clear hthr hlast
        by_cases hiN : i < N
        · have hi1 : (i : Int) ≤ (n2 : Int) := by omega
          have hi2 : (i : Int) < 200 := by omega
          go_upto_if 60 with fail
          go_cut [10] (fun v10 wx => ∃ now' : Nat, v10 = .int .u64 (now' : Int) ∧ now' < 18446744073709551616 ∧ (i = n2 → now' = 300) ∧ wx = wr)
          case first =>
            -- BEGIN3
            as_aux_lemma =>
              by_cases hie : i = n2
              · have hin : (i : Int) = (n2 : Int) := by omega
                go_wp2
                go_meet
                exact ⟨300, rfl, by decide, fun _ => rfl, rfl⟩
              · have hin : ¬ (i : Int) = (n2 : Int) := by omega
                have hin' : ((i : Int) == (n2 : Int)) = false := by simp; omega
                have hi3 : (i : Int) < (n2 : Int) := by omega
                have hi0 : (0 : Int) ≤ (i : Int) := by omega
                obtain ⟨b, off, rfl, hc⟩ := HH.out.2.2.2.at (by rw [HH.out.2.2.1]; omega)
                have c0 := (Chg.of_below HN.out.1.a.below (fun _ => False)).cell (hc i (by rw [HH.out.2.2.1]; omega)) (fun h => h)
                obtain ⟨x, hx⟩ : ∃ x, x = ss[i]'(by rw [HH.out.2.2.1]; omega) := ⟨_, rfl⟩
                rw [← hx] at c0
                clear hx
                clear hc
                obtain ⟨y, hy⟩ : ∃ y : Nat, (y : Int) = IntKind.u64.wrap ((now : Int) + (x.toNat : Int) % 9) := ⟨(IntKind.u64.wrap ((now : Int) + (x.toNat : Int) % 9)).toNat, Int.toNat_of_nonneg (Int.emod_nonneg _ (by decide))⟩
                have hy2 : y < 18446744073709551616 := by
                  have h1 : (y : Int) < 18446744073709551616 := by rw [hy]; exact Int.emod_lt_of_pos _ (by decide)
                  omega
                have HY := Lib.hid hy
                clear hy
                go_wp2
                go_meet
                exact ⟨y, by rw [HY.out], hy2, fun h => absurd h hie, rfl⟩
            -- END3
          case rest =>
            -- BEGIN4
            as_aux_lemma =>
              obtain ⟨now2, rfl, hn', h300, rfl⟩ := hcut
              have HDU := Lib.hid (due_in w p l _ _ _ F (now2 : Int) now2 _ HN.out.1.a rfl rfl rfl rfl)
              go_wp2_with fail
              (with_reducible refine HDU.out.mono ?_)
              rintro e3 w3 ⟨uo, uc, rfl, ho, hun, F3, hl3, hc3, hg3⟩
              have H3 := Lib.hid (And.intro (HN.out.1.step hl3 hc3 hg3) (And.intro ho (And.intro (fun a ha => Nat.ne_of_gt (Nat.lt_of_lt_of_le HN.out.1.m.lt (hun a ha))) (fun a ha => Nat.ne_of_gt (Nat.lt_of_lt_of_le (heap_lt HN.out.1.box) (hun a ha))))))
              clear ho hun hl3 hc3 hg3
              obtain ⟨out, hout⟩ : ∃ out, dueOut l now2 = out := ⟨_, rfl⟩
              obtain ⟨rest, hrest⟩ : ∃ rest, dueRest l now2 = rest := ⟨_, rfl⟩
              obtain ⟨r, hr⟩ : ∃ r, out.length = r := ⟨_, rfl⟩
              have HL := Lib.hid (And.intro (due_split l now2) (And.intro (due_le l now2) hr))
              rw [hout, hrest] at HL H3
              simp only [hout, hr] at H3 ⊢
              go_wp2
              go_loopg [73] r (fun g v wx => ∃ (j n' : Nat) (D' : DataW Unit) (la' : Wt), g + j = r ∧ v = .int .i64 j ∧ Three w wx p M T (l.drop j) rest F3 n' D' la' ∧ Chg (fun k => k = M ∨ k = T) w3 wx)
              case atStart => exact ⟨0, n, D, la, by omega, rfl, H3.out.1, Chg.refl _ _⟩
              case round =>
                obtain ⟨j, n', D', la', hgj, rfl, hthr, hch⟩ := hrel
                have HR := Lib.hid (And.intro hthr hch)
                clear hthr hch
                by_cases hj : j < r
                · have hr256 : r ≤ 256 := by
                    have h1 := congrArg List.length HL.out.1
                    have h2 := HN.out.1.fine.len
                    rw [List.length_append, HL.out.2.2] at h1
                    omega
                  have HG := Lib.hid (show gk - 1 + (j + 1) = r ∧ gk - 1 < gk ∧ (.int .i64 (wrap64 ((j : Int) + 1)) : Value) = .int .i64 ((j + 1 : Nat) : Int) from ⟨by omega, by omega, num1 j (by omega)⟩)
                  clear hr256
                  obtain ⟨x, hx⟩ : ∃ x, out[j]? = some x := ⟨_, List.getElem?_eq_getElem (by rw [HL.out.2.2]; exact hj)⟩
                  obtain ⟨ub, uoff, rfl, d0, d1⟩ := pos_at H3.out.2.1 hx
                  have hne : ¬ (ub = M ∨ ub = T) := fun h => h.elim (H3.out.2.2.1 _ rfl) (H3.out.2.2.2 _ rfl)
                  have d0 := HR.out.2.cell d0 hne
                  have d1 := HR.out.2.cell d1 hne
                  have hlx : l[j]? = some x := by rw [← HL.out.1, List.getElem?_append_left (by rw [HL.out.2.2]; exact hj)]; exact hx
                  have hdr : l.drop j = x :: l.drop (j + 1) := by
                    obtain ⟨hjl, rfl⟩ := List.getElem?_eq_some_iff.1 hlx
                    exact List.drop_eq_getElem_cons hjl
                  have hxn := HL.out.2.1 x (List.mem_of_getElem? hx)
                  have hT := HR.out.1
                  rw [hdr] at hT
                  obtain ⟨hx1, hx2, hx3⟩ := hT.rep.ok x (by simp)
                  have hat := hT.rep.at_ x (by simp)
                  have hhas := (hT.rep.has x.led x.ent hx1 hx2).2 ⟨x, by simp, rfl, rfl⟩
                  have hlt : la' = ⟨0, 0, 0⟩ ∨ la'.lt x := hT.lt.imp id (fun h => h x (by simp))
                  have hdel := hT.rep.del (hT.m.tidy lawPos) hT.fine.once
                  obtain ⟨x0, x1, x2⟩ := x
                  dsimp only at *
                  have HT := Lib.hid (And.intro (hT.stays ((Below.refl _ wr).alloc (Nat.le_refl _) (.cells #[.int .u64 (x1 : Int), .int .u64 (x2 : Int)] 32))) (And.intro hat (And.intro hhas (And.intro hlt (And.intro hdel hdr)))))
                  have hji : (j : Int) < (r : Int) := by omega
                  have hj0 : (0 : Int) ≤ (j : Int) := by omega
                  have hbx := HT.out.1.box
                  obtain ⟨t0, t1, t2, tf⟩ := cells3 hbx
                  have hTw : ¬ wr.heap.size = T := fun e => by have := heap_lt HR.out.1.box; omega
                  have HTB := Lib.hid (And.intro (heap_top wr (.cells #[.int .u64 (x1 : Int), .int .u64 (x2 : Int)] 32)) hTw)
                  clear hx hne hlx hdr hT hat hhas hlt hdel hbx
                  go_upto_region 25 with (at_lookup; refine wpList_lookup_own_ok_int _ rfl _ _ 48 rfl 32 30 .u64 lawPos Try.underlying48 Try.underlying30 (zero64 _) M n' D' rfl HT.out.1.m _ _ rfl (key_of hx1 hx2) ?_; intro c hat hwc; rw [HT.out.2.1] at hat; rw [HT.out.2.2.1]; obtain rfl : c = (x0 : Int) := by injection hat with h; injection h with _ h; exact h.symm)
                  have HLT := HT.out.2.2.2.1
                  have hn2 : ¬ (now2 : Int) < (x0 : Int) := by omega
                  obtain ⟨l0, l1, l2⟩ := la'
                  dsimp only at *
                  go_cut [113] (fun v wx => v = .bool false ∧ Below (wr.alloc (.cells #[.int .u64 (x1 : Int), .int .u64 (x2 : Int)] 32)).heap.size (wr.alloc (.cells #[.int .u64 (x1 : Int), .int .u64 (x2 : Int)] 32)) wx)
                  case first =>
                    -- BEGIN5
                    as_aux_lemma =>
                      obtain ⟨b0, b1, _⟩ := cells2 HTB.out.1
                      clear d0 d1 tf
                      generalize wr.alloc (.cells #[.int .u64 (x1 : Int), .int .u64 (x2 : Int)] 32) = wq at *
                      rcases HLT with hz | hlt
                      · injection hz with hz0 hz1 hz2
                        subst hz0; subst hz1; subst hz2
                        by_cases h0 : x0 = 0
                        · subst h0
                          go_wp2
                          go_meet
                          exact ⟨rfl, Below.refl _ _⟩
                        · have h0i : ¬ (x0 : Int) = 0 := by omega
                          have h0j : ((x0 : Int) == 0) = false := by simp; omega
                          have h0k : ¬ (x0 : Int) < 0 := by omega
                          go_wp2
                          go_meet
                          exact ⟨rfl, Below.refl _ _⟩
                      · unfold Wt.lt at hlt
                        dsimp only at hlt
                        by_cases he : l0 = x0
                        · have hpo : posOrd l1 l2 x1 x2 < 0 := by
                            unfold posOrd
                            rw [orI_neg, cmpU_neg, cmpU_zero, cmpU_neg]
                            omega
                          have hpi : ¬ (0 : Int) < posOrd l1 l2 x1 x2 := by omega
                          have hpj : decide ((0 : Int) < posOrd l1 l2 x1 x2) = false := decide_eq_false hpi
                          have HPO := Lib.hid (fun (A B : Int) (hA : A = (l1 : Int)) (hB : B = (l2 : Int)) => order_int A B l1 l2 x1 x2 wq hA hB)
                          generalize posOrd l1 l2 x1 x2 = PO at *
                          subst he
                          clear hlt hpo
                          by_cases g0 : l0 = 0
                          · subst g0
                            by_cases g1 : l1 = 0
                            · subst g1
                              by_cases g2 : l2 = 0
                              · subst g2
                                go_wp2
                                go_meet
                                exact ⟨rfl, Below.refl _ _⟩
                              · have g2i : ¬ (l2 : Int) = 0 := by omega
                                have g2j : ((l2 : Int) == 0) = false := by simp; omega
                                go_wp2_with (go_at_call 18; (with_reducible refine (HPO.out _ _ (by first | rfl | simp) (by first | rfl | simp)).mono ?_); rintro e7 w7 ⟨rfl, hb7⟩; have H7 := Lib.hid hb7; clear hb7)
                                go_meet
                                exact ⟨rfl, H7.out⟩
                            · have g1i : ¬ (l1 : Int) = 0 := by omega
                              have g1j : ((l1 : Int) == 0) = false := by simp; omega
                              go_wp2_with (go_at_call 18; (with_reducible refine (HPO.out _ _ (by first | rfl | simp) (by first | rfl | simp)).mono ?_); rintro e7 w7 ⟨rfl, hb7⟩; have H7 := Lib.hid hb7; clear hb7)
                              go_meet
                              exact ⟨rfl, H7.out⟩
                          · have g0i : ¬ (l0 : Int) = 0 := by omega
                            have g0j : ((l0 : Int) == 0) = false := by simp; omega
                            go_wp2_with (go_at_call 18; (with_reducible refine (HPO.out _ _ (by first | rfl | simp) (by first | rfl | simp)).mono ?_); rintro e7 w7 ⟨rfl, hb7⟩; have H7 := Lib.hid hb7; clear hb7)
                            go_meet
                            exact ⟨rfl, H7.out⟩
                        · have hli : ¬ (x0 : Int) < (l0 : Int) := by omega
                          have hlj : ((x0 : Int) == (l0 : Int)) = false := by simp; omega
                          have hlk : ¬ (x0 : Int) = (l0 : Int) := by omega
                          go_wp2
                          go_meet
                          exact ⟨rfl, Below.refl _ _⟩
                    -- END5
                  case rest =>
                    -- BEGIN6
                    as_aux_lemma =>
                      obtain ⟨rfl, hb⟩ := hcut
                      have HQ := Lib.hid (And.intro (HT.out.1.stays hb) (And.intro ((Chg.of_below hb (fun _ => False)).heap HTB.out.1 (fun h => h)) (((Below.refl _ wr).alloc (Nat.le_refl _) (.cells #[.int .u64 (x1 : Int), .int .u64 (x2 : Int)] 32)).trans (hb.mono (by rw [size_alloc]; omega)))))
                      clear hb
                      obtain ⟨q0, q1, _⟩ := cells2 HQ.out.2.1
                      have HDL := Lib.hid HT.out.2.2.2.2
                      have HFN := Lib.hid (show Fine (l.drop (j + 1)) ∧ ∀ e ∈ l.drop (j + 1), Wt.lt ⟨x0, x1, x2⟩ e from ⟨⟨(List.pairwise_cons.1 HQ.out.1.fine.sorted).2, (List.pairwise_cons.1 HQ.out.1.fine.once).2, fine_tail HQ.out.1.fine.len⟩, (List.pairwise_cons.1 HQ.out.1.fine.sorted).1⟩)
                      have hTM : ¬ wr.heap.size = M := Nat.ne_of_gt HR.out.1.m.lt
                      have HTM := Lib.hid hTM
                      clear d0 d1 t0 t1 t2 tf hTM
                      go_wp2_with (at_delete; refine wpList_delete_own _ rfl _ _ 48 32 rfl 30 lawPos Try.underlying48 _ M n' D' rfl HQ.out.1.m _ _ rfl (key_of hx1 hx2) ?_; intro w8 hown8 hturn8; have h8 := HQ.out.1.map hown8 hturn8 HDL.out.1 (fun e he => List.mem_cons_of_mem _ he) HFN.out.1; have hc8 := turned_chg hturn8; obtain ⟨q0, q1, _⟩ := cells2 (hc8.heap HQ.out.2.1 HTM.out); obtain ⟨t0, t1, t2, tf⟩ := cells3 h8.box; have H8 := Lib.hid (And.intro h8 hc8); clear hown8 hturn8 h8 hc8)
                      clear hx1 hx2 hx3 hxn hn2 hnow hn' hji hj0 hj hgj hiN hi1 hi2 hNa hNb hNc hgk hpm hsm
                      go_roundg (gk - 1)
                      case measure => exact HG.out.2.1
                      case rel =>
                        have ht := told_at x0 x1 x2 H8.out.1 HFN.out.2
                        have hc := told_chg ((HR.out.2.trans (Chg.of_below HQ.out.2.2 (fun _ => False)) (fun _ _ h => h.elim)).trans H8.out.2 (fun _ _ h => .inl h)) (T := T) (.inr rfl) (.int .u64 (x0 : Int)) (.int .u64 (x1 : Int)) (.int .u64 (x2 : Int))
                        exact ⟨j + 1, n', _, ⟨x0, x1, x2⟩, HG.out.1, HG.out.2.2, ht, hc⟩
                    -- END6
                · obtain rfl : j = r := by omega
                  have hdr : l.drop j = rest := by
                    have := HL.out.1
                    rw [← this, List.drop_append_of_le_length (by rw [HL.out.2.2]; exact Nat.le_refl _), List.drop_of_length_le (by rw [HL.out.2.2]; exact Nat.le_refl _)]
                    rfl
                  have HR2 := HR.out.1
                  rw [hdr] at HR2
                  have HR3 := Lib.hid HR2
                  have HRE := Lib.hid hrest
                  clear HR2 hdr hrest hout
                  go_wp2
                  go_roundg (K0 - 1)
                  case measure => omega
                  case rel =>
                    refine ⟨i + 1, now2, n', rest, F3, D', la', by omega, rfl, by go_num, HR3.out, hn', fun h => ?_⟩
                    have h3 := h300 (by omega)
                    rw [← HRE.out, h3]
                    exact (due_allOut (fun e he => by have := (HN.out.1.rep.ok e he).2.2; omega)).2
            -- END4
        · by_cases hin : ¬ i = n2 + 1
          · have h200 : i = 200 := by omega
            have hi1 : (i : Int) ≤ (n2 : Int) := by omega
            have hi2 : decide ((i : Int) < 200) = false := decide_eq_false (by omega)
            have hn2 : (200 : Int) ≤ (n2 : Int) := by omega
            as_aux_lemma =>
              go_wp2
              go_ret
              exact ⟨rfl, HN.out.1.a.below⟩
          · have hin : i = n2 + 1 := Classical.byContradiction hin
            have hi1 : decide ((i : Int) ≤ (n2 : Int)) = false := decide_eq_false (by omega)
            have hi3 : ¬ (i : Int) ≤ (n2 : Int) := by omega
            have hn2 : decide ((200 : Int) ≤ (n2 : Int)) = false := decide_eq_false (by omega)
            have hn3 : ¬ (200 : Int) ≤ (n2 : Int) := by omega
            obtain rfl : l = [] := HN.out.2 hin
            have hsz : Maps.size D = 0 := HN.out.1.rep.size
            clear hin
            as_aux_lemma =>
              have hlen := (show World.ownsMap _ _ _ _ _ _ _ from HN.out.1.m).len Try.underlying48
              rw [hsz] at hlen
              go_wp2_with fail
              (with_reducible refine (all_n w p [] F 0 _ HN.out.1.a rfl).mono ?_)
              rintro e4 w4 ⟨xo, xc, rfl, hb4⟩
              have H4 := Lib.hid (HN.out.1.stays hb4)
              clear hb4
              go_wp2
              go_ret
              exact ⟨rfl, H4.out.a.below⟩
    -- END2
theorem laterOrder_in (W : World) (base : Nat) (v0 v1 : Value) (k0 : Value.okWide Try.prog W .any base 27 v0) (k1 : Value.okWide Try.prog W .any base 47 v1) (r0 : Rd Try.prog W 27 v0.cells.toList) (r1 : Rd Try.prog W 47 v1.cells.toList) :
    Calls Try.prog 4 #[v0, v1] W fun e w' => e = .returned (.bool true) ∧ Below W.heap.size W w' := by
  obtain ⟨po, ps, d, rfl, h4, h5, h6⟩ := in_slice Try.underlying27 (size := 3) (by kernel_rfl) (by decide) WtIs (fun es h => wt_rd h) k0 r0
  obtain ⟨so, ss, d2, rfl, h7, h8, h9⟩ := in_bytesC Try.underlying47 Try.underlying5 (by kernel_rfl) k1 r1
  exact laterOrder_any po _ d ps so _ d2 ss W rfl h4 (Nat.le_trans h5 h6) rfl h7 (Nat.le_trans h8 h9)
end Go.Proofs.Ytmkjcjdomechfaa
