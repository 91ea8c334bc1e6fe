/-
  LAYER 19: the document's list: Put.
-/
import Derived.Test.YtmkjcjdomechfaaLaterGa
import Derived.Test.YtmkjcjdomechfaaLast
namespace Go.Proofs.Ytmkjcjdomechfaa
open Go Go.RowKit

theorem insL_first : ∀ {l : List Wt} {t : Wt} {i : Nat}, (∀ y ∈ l.take i, wtOrd y t < 0) → (i = l.length ∨ ∃ e, l[i]? = some e ∧ ¬ wtOrd e t < 0) → insL l t = l.take i ++ [t] ++ l.drop i
  | [], t, i, _, _ => by simp [insL]
  | x :: l, t, 0, _, h => by
    rcases h with h | ⟨e, he, h⟩
    · simp at h
    · simp at he; subst he
      rw [insL, if_neg h]; rfl
  | x :: l, t, i + 1, h1, h2 => by
    rw [insL, if_pos (h1 x (by simp)), insL_first (i := i) (fun y hy => h1 y (by simp [hy])) (by
      rcases h2 with h | ⟨e, he, h⟩
      · left; simpa using h
      · right; exact ⟨e, by simpa using he, h⟩)]
    rfl
/-- A list made anew behind the world wa. -/
structure WMid (wa w2 : World) (cs : List Value) (n : Nat) (xo : Option Addr) (xc : Nat) : Prop where
  below : Below wa.heap.size wa w2
  own : Own w2 3 xo n xc cs
  new : ∀ a, xo = some a → wa.heap.size ≤ a.block
theorem wmid_a {wa w2 : World} {A : Obj} {l : List Value} {n xc : Nat} {xo : Option Addr} (hx : Own w2 3 xo (0 + n) xc ([] ++ l)) (hch : Chg (fun k => ∃ a, some (⟨wa.heap.size, 0, none⟩ : Addr) = some a ∧ a.block = k) (wa.alloc A).drew w2)
    (hx2 : ∀ a', xo = some a' → some (⟨wa.heap.size, 0, none⟩ : Addr) = some a' ∨ (wa.alloc A).drew.heap.size ≤ a'.block) : WMid wa w2 l n xo xc :=
  ⟨chg_new (Below.refl _ _) hch.undrew, by rw [Nat.zero_add, List.nil_append] at hx; exact hx, new_blk (Below.refl _ wa) hx2⟩
theorem wmid_b {wa w2 : World} {A : Obj} {cs : Array Value} {t : TypeId} {fz : Nat × Nat} {l : List Value} {n xc : Nat} {xo : Option Addr} (hx : Own w2 3 xo (0 + n) xc ([] ++ l)) (hch : Chg (fun k => ∃ a, some (⟨wa.heap.size, 0, none⟩ : Addr) = some a ∧ a.block = k) ((wa.alloc A).alloc (.cells cs t fz)).drew w2)
    (hx2 : ∀ a', xo = some a' → some (⟨wa.heap.size, 0, none⟩ : Addr) = some a' ∨ ((wa.alloc A).alloc (.cells cs t fz)).drew.heap.size ≤ a'.block) : WMid wa w2 l n xo xc ∧ Row w2 (some ⟨wa.heap.size + 1, 0, none⟩) cs.toList := by
  have hb1 := (Below.refl wa.heap.size wa).alloc (Nat.le_refl _) A
  have hb2 := hb1.alloc hb1.size (.cells cs t fz)
  have hr := Row.alloc (wa.alloc A) cs t fz
  rw [size_alloc] at hr
  refine ⟨⟨hb2.trans (hch.undrew.below hb2.size (fun k ⟨a, ha, e⟩ => ?_)), by rw [Nat.zero_add, List.nil_append] at hx; exact hx, fun a ha => ?_⟩, hch.undrew.row hr (fun a ha ⟨b, hb, e⟩ => ?_)⟩
  · cases ha; rw [← e]; exact Nat.le_refl _
  · rcases hx2 a ha with h | h
    · cases h; exact Nat.le_refl _
    · exact Nat.le_trans hb2.size h
  · cases ha; cases hb; simp at e
theorem wmid_c {wa w2 : World} {A : Obj} {cs : Array Value} {t : TypeId} {fz : Nat × Nat} {l : List Value} {n xc : Nat} {xo : Option Addr} (hx : Own w2 3 xo (0 + n) xc ([] ++ l)) (hch : Chg (fun k => ∃ a, some (⟨wa.heap.size + 1, 0, none⟩ : Addr) = some a ∧ a.block = k) ((wa.alloc (.cells cs t fz)).alloc A).drew w2)
    (hx2 : ∀ a', xo = some a' → some (⟨wa.heap.size + 1, 0, none⟩ : Addr) = some a' ∨ ((wa.alloc (.cells cs t fz)).alloc A).drew.heap.size ≤ a'.block) : WMid wa w2 l n xo xc ∧ Row w2 (some ⟨wa.heap.size, 0, none⟩) cs.toList := by
  have hb1 := (Below.refl wa.heap.size wa).alloc (Nat.le_refl _) (.cells cs t fz)
  have hb2 := hb1.alloc hb1.size A
  have hr := (Row.alloc wa cs t fz).below ((Below.refl _ (wa.alloc (.cells cs t fz))).alloc (Nat.le_refl _) A)
  refine ⟨⟨hb2.trans (hch.undrew.below hb2.size (fun k ⟨a, ha, e⟩ => ?_)), by rw [Nat.zero_add, List.nil_append] at hx; exact hx, fun a ha => ?_⟩, hch.undrew.row hr (fun a ha ⟨b, hb, e⟩ => ?_)⟩
  · cases ha; rw [← e]; exact Nat.le_succ _
  · rcases hx2 a ha with h | h
    · cases h; exact Nat.le_succ _
    · exact Nat.le_trans hb2.size h
  · cases ha; cases hb; simp at e
theorem wmid_next {wa w2 w3 : World} {l zs : List Value} {n yc : Nat} {xo yo : Option Addr} (hb : Below wa.heap.size wa w2) (hn : ∀ a, xo = some a → wa.heap.size ≤ a.block) (hy : Own w3 3 yo n yc (l ++ zs)) (hch : Chg (fun k => ∃ a, xo = some a ∧ a.block = k) w2 w3)
    (hx2 : ∀ a', yo = some a' → xo = some a' ∨ w2.heap.size ≤ a'.block) : WMid wa w3 (l ++ zs) n yo yc := by
  refine ⟨hb.trans (hch.below hb.size (fun k ⟨a, ha, e⟩ => e ▸ hn a ha)), hy, fun a ha => ?_⟩
  rcases hx2 a ha with h | h
  · exact hn a h
  · exact Nat.le_trans hb.size h
theorem six_keep {n : Nat} {w w' : World} (hb : Below n w w') (hn : n = w.heap.size := by rfl) {a1 a2 a3 a4 a5 a6 : Addr} {v1 v2 v3 v4 v5 v6 : Value} (h : w.cell? a1 = some v1 ∧ w.cell? a2 = some v2 ∧ w.cell? a3 = some v3 ∧ w.cell? a4 = some v4 ∧ w.cell? a5 = some v5 ∧ w.cell? a6 = some v6) :
    w'.cell? a1 = some v1 ∧ w'.cell? a2 = some v2 ∧ w'.cell? a3 = some v3 ∧ w'.cell? a4 = some v4 ∧ w'.cell? a5 = some v5 ∧ w'.cell? a6 = some v6 := by
  subst hn
  have hc := Chg.of_below hb (fun _ => False)
  exact ⟨hc.cell h.1 (fun h => h), hc.cell h.2.1 (fun h => h), hc.cell h.2.2.1 (fun h => h), hc.cell h.2.2.2.1 (fun h => h), hc.cell h.2.2.2.2.1 (fun h => h), hc.cell h.2.2.2.2.2 (fun h => h)⟩
theorem rput_time (p a b at_ : Nat) (w : World) (h : 1099511627776 < at_) :
    Calls Try.prog 11 #[.pointer (some ⟨p, 0, none⟩), .agg #[.int .u64 (a : Int), .int .u64 (b : Int)], .int .u64 (at_ : Int)] w fun r w' => r = .returned (.int .i64 63) ∧ Below w.heap.size w w' := by
  have hi : (1099511627776 : Int) < (at_ : Int) := by omega
  go_enter Try.func11, Try.ntmps11
  go_wp2
  go_ret
  exact ⟨rfl, (Below.refl _ w).alloc (Nat.le_refl _) _⟩
set_option maxHeartbeats 4000000 in
theorem rput_full (p a b at_ : Nat) (l : List Wt) (F : List Nat) (w : World) (h : RListAt w p l F) (hl : (dropL l a b).1.length = 256) (hf : (dropL l a b).2 = false) (hat : at_ ≤ 1099511627776)
    (HD0 : ∀ w, RListAt w p l F → Calls Try.prog 13 #[.pointer (some ⟨p, 0, none⟩), .agg #[.int .u64 (a : Int), .int .u64 (b : Int)]] w fun r w' => r = .returned (.bool (dropL l a b).2) ∧ RWrote w w' p (dropL l a b).1 F ∧ ((dropL l a b).2 = false → Below w.heap.size w w')) :
    Calls Try.prog 11 #[.pointer (some ⟨p, 0, none⟩), .agg #[.int .u64 (a : Int), .int .u64 (b : Int)], .int .u64 (at_ : Int)] w fun r w' => r = .returned (.int .i64 14) ∧ RWrote w w' p l F := by
  have hi : ¬ (1099511627776 : Int) < (at_ : Int) := by omega
  have hb0 := (Below.refl _ w).alloc (Nat.le_refl _) (.cells #[.int .u64 (a : Int), .int .u64 (b : Int)] 32)
  have h0 := h.keep (Chg.of_below hb0 (fun _ => False)) (fun _ _ h => h)
  have hT := heap_top w (.cells #[.int .u64 (a : Int), .int .u64 (b : Int)] 32)
  obtain ⟨t0, t1, _⟩ := cells2 hT
  have hpl : p < w.heap.size := by obtain ⟨_, _, _, h1, _⟩ := h; exact heap_lt h1
  have HDD := Lib.hid (HD0 _ h0)
  obtain ⟨lo, n, cap, h1, h2, h3, hFe⟩ := h0
  obtain ⟨z0, z2⟩ := cells1 h1
  have HX := Lib.hid (And.intro h1 (And.intro h2 (And.intro h3 (And.intro hFe (And.intro hb0 (And.intro hf hl))))))
  clear h h1 h2 h3 hFe hb0 hf HD0 hT
  go_enter Try.func11, Try.ntmps11
  go_wp2_with fail
  (with_reducible refine HDD.out.mono ?_)
  rintro r w1 ⟨rfl, ⟨F1, ⟨lo1, n1, cap1, g1, g2, g3, g4⟩, g5, g6⟩, g7⟩
  have gl : n1 = 256 := (fl_own_len el_e g2).symm.trans hl
  obtain ⟨y0, y2⟩ := cells1 g1
  have gb := Chg.of_below (g7 HX.out.2.2.2.2.2.1) (fun _ => False)
  have gn : ((n1 : Int) == 256) = true := by simp; omega
  have H1 := Lib.hid (And.intro g1 (And.intro gb (g7 HX.out.2.2.2.2.2.1)))
  clear g1 g2 g3 g4 g5 g6 g7 gb
  go_wp2
  go_ret
  have hw1 := H1.out.2.1.heap HX.out.1 (fun h => h)
  have e : p ∈ F := by rw [HX.out.2.2.2.1]; simp
  refine ⟨rfl, F, ⟨lo, n, cap, heap_set hw1 0 _, (HX.out.2.1.keep H1.out.2.1 (fun _ _ h => h)).keep (Chg.one _ p 0 _) (fun a ha e => HX.out.2.2.1 (mem_blk.2 ⟨a, ha, e⟩)), HX.out.2.2.1, HX.out.2.2.2.1⟩, (Chg.of_below (HX.out.2.2.2.2.1.trans (H1.out.2.2.mono HX.out.2.2.2.2.1.size)) _).set e 0 _, fun k hk => .inl hk⟩
set_option maxHeartbeats 80000000 in
set_option maxRecDepth 100000 in
theorem rput_go (p a b at_ : Nat) (l : List Wt) (F : List Nat) (w : World) (h : RListAt w p l F) (hl : (dropL l a b).1.length < 256) (hat : at_ ≤ 1099511627776)
    (HD0 : ∀ w, RListAt w p l F → Calls Try.prog 13 #[.pointer (some ⟨p, 0, none⟩), .agg #[.int .u64 (a : Int), .int .u64 (b : Int)]] w fun r w' => r = .returned (.bool (dropL l a b).2) ∧ RWrote w w' p (dropL l a b).1 F ∧ ((dropL l a b).2 = false → Below w.heap.size w w')) :
    Calls Try.prog 11 #[.pointer (some ⟨p, 0, none⟩), .agg #[.int .u64 (a : Int), .int .u64 (b : Int)], .int .u64 (at_ : Int)] w fun r w' => r = .returned (.int .i64 0) ∧ RWrote w w' p (insL (dropL l a b).1 ⟨at_, a, b⟩) F := by
  have hi : ¬ (1099511627776 : Int) < (at_ : Int) := by omega
  have hb0 := (Below.refl _ w).alloc (Nat.le_refl _) (.cells #[.int .u64 (a : Int), .int .u64 (b : Int)] 32)
  have h0 := h.keep (Chg.of_below hb0 (fun _ => False)) (fun _ _ h => h)
  have hT := heap_top w (.cells #[.int .u64 (a : Int), .int .u64 (b : Int)] 32)
  obtain ⟨t0, t1, _⟩ := cells2 hT
  have hlt := h.lt
  have HDD := Lib.hid (HD0 _ h0)
  obtain ⟨lo0, n0, cap0, h1, h2, h3, hFe⟩ := h
  have hpl : p < w.heap.size := heap_lt h1
  have hpF : p ∈ F := by rw [hFe]; simp
  obtain ⟨z0, z2⟩ := cells1 h1
  have z0' := alloc_cell (o := .cells #[.int .u64 (a : Int), .int .u64 (b : Int)] 32) z0
  generalize hl2 : dropL l a b = dl at *
  obtain ⟨l2, was⟩ := dl
  dsimp only at *
  obtain ⟨K, hK, hno, hstop⟩ : ∃ K, K ≤ l2.length ∧ (∀ y ∈ l2.take K, wtOrd y ⟨at_, a, b⟩ < 0) ∧ (K = l2.length ∨ ∃ e, l2[K]? = some e ∧ ¬ wtOrd e ⟨at_, a, b⟩ < 0) := by
    rcases first_of (fun e => decide (¬ wtOrd e ⟨at_, a, b⟩ < 0)) l2 with h | ⟨i, x, hx, hx1, hx2⟩
    · exact ⟨l2.length, Nat.le_refl _, fun y hy => by have := h y (List.mem_of_mem_take hy); simpa using this, .inl rfl⟩
    · exact ⟨i, Nat.le_of_lt (List.getElem?_eq_some_iff.1 hx).1, fun y hy => by have := hx2 y hy; simpa using this, .inr ⟨x, hx, by simpa using hx1⟩⟩
  have HINS := Lib.hid (insL_first hno hstop)
  have HX := Lib.hid (And.intro hb0 (And.intro hT (And.intro hlt hpF)))
  have HS := Lib.hid (And.intro hno hstop)
  clear h0 h1 h2 h3 hFe hb0 HD0 hT hlt hpF z0 z2 hno hstop hl2
  go_enter Try.func11, Try.ntmps11
  go_wp2_with fail
  (with_reducible refine HDD.out.mono ?_)
  rintro r w1 ⟨rfl, ⟨F1, ⟨lo, n, cap, g1, g2, g3, g4⟩, g5, g6⟩, _⟩
  have gT := g5.heap HX.out.2.1 (fun h => by have := HX.out.2.2.1 _ h; omega)
  have gl : l2.length = n := (fl_own_len el_e g2)
  have gll : n < 256 := gl ▸ hl
  obtain ⟨y0, y2⟩ := cells1 g1
  have gn : ((n : Int) == 256) = false := by simp; omega
  have H1 := Lib.hid (And.intro g1 (And.intro g2 (And.intro g3 (And.intro gT g5))))
  clear g1 g2 g3 g4 g5 g6 gT
  go_wp2
  rw [gl] at hK
  have HN := Lib.hid gl
  clear y0 y2 t0 t1 z0' gl hl HDD
  go_loopg [8] K (fun g v wr => ∃ k : Nat, g + k = K ∧ v = .int .i64 k ∧ Below w1.heap.size w1 wr)
  case atStart => exact ⟨0, by omega, rfl, Below.refl _ _⟩
  case round =>
    obtain ⟨k, hgk, rfl, hb⟩ := hrel
    obtain ⟨K0, rfl⟩ : ∃ K0, K0 = gk := ⟨_, rfl⟩
    have hC := Chg.of_below hb (fun _ => False)
    have hp := hC.heap H1.out.1 (fun h => h)
    have hT := hC.heap H1.out.2.2.2.1 (fun h => h)
    obtain ⟨z0, z2⟩ := cells1 hp
    obtain ⟨t0, t1, _⟩ := cells2 hT
    have ho := H1.out.2.1.keep hC (fun _ _ h => h)
    have HR := Lib.hid hb
    clear hb hT hC hp
    go_upto_region 9 with fail
    go_cut [71] (fun v wx => v = .bool (decide (k < K)) ∧ Below wr.heap.size wr wx)
    case first =>
      by_cases hkn : k < n
      · obtain ⟨e, he⟩ : ∃ e, l2[k]? = some e := ⟨_, List.getElem?_eq_getElem (by rw [HN.out]; omega)⟩
        have hlt : wtOrd e ⟨at_, a, b⟩ < 0 ↔ k < K := by
          constructor
          · intro h
            rcases Nat.lt_or_ge k K with hk | hk
            · exact hk
            · obtain rfl : k = K := by omega
              rcases HS.out.2 with h2 | ⟨e', he', h2⟩
              · have := HN.out; omega
              · rw [he] at he'; cases he'; omega
          · intro h
            exact HS.out.1 e (List.mem_of_getElem? (i := k) (by rw [List.getElem?_take_of_lt h]; exact he))
        rw [wtOrd_neg] at hlt
        unfold Wt.lt at hlt
        dsimp only at hlt
        obtain ⟨bb, off, rfl, q0, q1, q2⟩ := wt_at ho.row he
        have hki : (k : Int) < (n : Int) := by omega
        have hk0 : (0 : Int) ≤ (k : Int) := by omega
        clear ho he
        by_cases h1 : e.at_ < at_
        · have i1 : (e.at_ : Int) < (at_ : Int) := by omega
          have hd : decide (k < K) = true := decide_eq_true (hlt.1 (.inl h1))
          have HD := Lib.hid hd
          clear hlt hd h1
          generalize (e.at_ : Int) = E0 at *
          -- BEGIN1
          as_aux_lemma =>
            go_quiet (fail)
            go_wp2
            go_meet
            exact ⟨by rw [HD.out], bdrew (Below.refl _ _) _⟩
          -- END1
        · have i1 : decide ((e.at_ : Int) < (at_ : Int)) = false := decide_eq_false (by omega)
          by_cases h2 : e.at_ = at_
          · have i2 : ((e.at_ : Int) == (at_ : Int)) = true := by simp; omega
            have HD := Lib.hid (show decide (rOrd e.led e.ent a b < 0) = decide (k < K) by
              refine decide_eq_decide.2 (Iff.trans ?_ hlt)
              rw [rOrd_neg]
              constructor
              · intro h; exact .inr ⟨h2, h⟩
              · rintro (h | h)
                · exact absurd h h1
                · exact h.2)
            have i1' : ¬ (e.at_ : Int) < (at_ : Int) := by omega
            have i2e : (e.at_ : Int) = (at_ : Int) := by omega
            clear hlt h1 h2 i2
            generalize (e.at_ : Int) = E0 at *
            subst i2e
            generalize hQ : rOrd e.led e.ent a b = Q at *
            have HO := Lib.hid (fun wx => hQ ▸ rorder_any e.led e.ent a b wx)
            clear hQ
            -- BEGIN2
            as_aux_lemma =>
              have hS0 : wr.drew.cell? ⟨p, 0, none⟩ = some (.slice (some ⟨bb, off, none⟩) n cap) ∧ wr.drew.cell? ⟨bb, off + k * 3, none⟩ = some (.int .u64 (at_ : Int)) ∧ wr.drew.cell? ⟨bb, off + k * 3 + 1, none⟩ = some (.int .u64 (e.led : Int)) ∧ wr.drew.cell? ⟨bb, off + k * 3 + 2, none⟩ = some (.int .u64 (e.ent : Int)) ∧ wr.drew.cell? ⟨w.heap.size, 0, none⟩ = some (.int .u64 (a : Int)) ∧ wr.drew.cell? ⟨w.heap.size, 1, none⟩ = some (.int .u64 (b : Int)) := ⟨z0, q0, q1, q2, t0, t1⟩
              go_region_held3 (fun wx => wx.cell? ⟨p, 0, none⟩ = some (.slice (some ⟨bb, off, none⟩) n cap) ∧ wx.cell? ⟨bb, off + k * 3, none⟩ = some (.int .u64 (at_ : Int)) ∧ wx.cell? ⟨bb, off + k * 3 + 1, none⟩ = some (.int .u64 (e.led : Int)) ∧ wx.cell? ⟨bb, off + k * 3 + 2, none⟩ = some (.int .u64 (e.ent : Int)) ∧ wx.cell? ⟨w.heap.size, 0, none⟩ = some (.int .u64 (a : Int)) ∧ wx.cell? ⟨w.heap.size, 1, none⟩ = some (.int .u64 (b : Int)))
                (first | exact hS0 | exact hS1)
                (first
                  | (go_at_call 22; (with_reducible refine (HO.out _).mono ?_); rintro r w2 ⟨rfl, hb2⟩; have hS1 := six_keep hb2 rfl hS0))
              go_wp2
              go_meet
              exact ⟨by rw [← HD.out], ((Below.refl _ wr).drew).trans hb2⟩
            -- END2
          · have i2 : ((e.at_ : Int) == (at_ : Int)) = false := by simp; omega
            have hd : decide (k < K) = false := decide_eq_false (fun h => by have := hlt.2 h; omega)
            have HD := Lib.hid hd
            have i2' : ¬ (e.at_ : Int) = (at_ : Int) := by omega
            clear hlt hd h1 h2
            generalize (e.at_ : Int) = E0 at *
            -- BEGIN3
            as_aux_lemma =>
              go_quiet (fail)
              go_wp2
              go_meet
              exact ⟨by rw [HD.out], bdrew (Below.refl _ _) _⟩
            -- END3
      · have hki : decide ((k : Int) < (n : Int)) = false := decide_eq_false (by omega)
        have hd : decide (k < K) = false := decide_eq_false (by omega)
        have HD := Lib.hid hd
        clear ho hd
        -- BEGIN4
        as_aux_lemma =>
          go_quiet (fail)
          go_wp2
          go_meet
          exact ⟨by rw [HD.out], bdrew (Below.refl _ _) _⟩
        -- END4
    case rest =>
      obtain ⟨rfl, hb2⟩ := hcut
      by_cases hk : k < K
      · have hd : decide (k < K) = true := decide_eq_true hk
        rw [hd]
        clear hd ho
        -- BEGIN5
        as_aux_lemma =>
          go_wp2
          go_roundg (K0 - 1)
          case measure => omega
          case rel => exact ⟨k + 1, by omega, by go_num, HR.out.trans (hb2.mono HR.out.size)⟩
        -- END5
      · have hd : decide (k < K) = false := decide_eq_false hk
        rw [hd]
        obtain rfl : k = K := by omega
        clear hd hk
        have hbW := HR.out.trans (hb2.mono HR.out.size)
        have hCW := Chg.of_below hbW (fun _ => False)
        have hpW := hCW.heap H1.out.1 (fun h => h)
        have hTW := hCW.heap H1.out.2.2.2.1 (fun h => h)
        have hoW := H1.out.2.1.keep hCW (fun _ _ h => h)
        have HPF := Lib.hid HX.out.2.2.2
        have HCC := Lib.hid ((Chg.of_below HX.out.1 (· ∈ F)).trans ((H1.out.2.2.2.2.trans (Chg.of_below hbW (fun _ => False)) (fun _ _ h => h.elim))) (fun _ _ h => h))
        have hle := hoW.le
        clear hbW hCW hb2 z0 z2 t0 t1 ho
        generalize wc = W at *
        cases lo with
        | none =>
          have hn0 : n = 0 ∧ cap = 0 := by have h1 := hoW.nil rfl; have h2 := hoW.le; omega
          obtain ⟨rfl, rfl⟩ := hn0
          obtain rfl : k = 0 := by omega
          have hl0 : l2 = [] := List.eq_nil_of_length_eq_zero HN.out
          have HE := Lib.hid (show ([] ++ (Wt.mk at_ a b).cells) ++ [] = (insL l2 ⟨at_, a, b⟩).flatMap Wt.cells by rw [hl0]; simp [insL])
          clear hl0 hgk
          -- BEGIN6
          as_aux_lemma =>
            obtain ⟨y0, y2⟩ := cells1 hpW
            obtain ⟨x0, x1, x2⟩ := cells2 hTW
            have fd0 : W.drew.cell? ⟨p, 0, none⟩ = some (.slice none 0 0) := y0
            have fd1 : W.drew.cell? ⟨w.heap.size, 0, none⟩ = some (.int .u64 (a : Int)) := x0
            have fd2 : W.drew.cell? ⟨w.heap.size, 1, none⟩ = some (.int .u64 (b : Int)) := x1
            have fe0 : (W.alloc (.cells #[] 45)).cell? ⟨p, 0, none⟩ = some (.slice none 0 0) := alloc_cell y0
            have fe1 : (W.alloc (.cells #[] 45)).cell? ⟨w.heap.size, 0, none⟩ = some (.int .u64 (a : Int)) := alloc_cell x0
            have fe2 : (W.alloc (.cells #[] 45)).cell? ⟨w.heap.size, 1, none⟩ = some (.int .u64 (b : Int)) := alloc_cell x1
            have fb0 : (W.alloc (.cells #[.int .u64 (at_ : Int), .int .u64 (a : Int), .int .u64 (b : Int)] 45)).cell? ⟨p, 0, none⟩ = some (.slice none 0 0) := alloc_cell y0
            have fb1 : (W.alloc (.cells #[.int .u64 (at_ : Int), .int .u64 (a : Int), .int .u64 (b : Int)] 45)).cell? ⟨w.heap.size, 0, none⟩ = some (.int .u64 (a : Int)) := alloc_cell x0
            have fb2 : (W.alloc (.cells #[.int .u64 (at_ : Int), .int .u64 (a : Int), .int .u64 (b : Int)] 45)).cell? ⟨w.heap.size, 1, none⟩ = some (.int .u64 (b : Int)) := alloc_cell x1
            have feb0 : ((W.alloc (.cells #[] 45)).alloc (.cells #[.int .u64 (at_ : Int), .int .u64 (a : Int), .int .u64 (b : Int)] 45)).cell? ⟨p, 0, none⟩ = some (.slice none 0 0) := alloc_cell (alloc_cell y0)
            have feb1 : ((W.alloc (.cells #[] 45)).alloc (.cells #[.int .u64 (at_ : Int), .int .u64 (a : Int), .int .u64 (b : Int)] 45)).cell? ⟨w.heap.size, 0, none⟩ = some (.int .u64 (a : Int)) := alloc_cell (alloc_cell x0)
            have feb2 : ((W.alloc (.cells #[] 45)).alloc (.cells #[.int .u64 (at_ : Int), .int .u64 (a : Int), .int .u64 (b : Int)] 45)).cell? ⟨w.heap.size, 1, none⟩ = some (.int .u64 (b : Int)) := alloc_cell (alloc_cell x1)
            have fbe0 : ((W.alloc (.cells #[.int .u64 (at_ : Int), .int .u64 (a : Int), .int .u64 (b : Int)] 45)).alloc (.cells #[] 45)).cell? ⟨p, 0, none⟩ = some (.slice none 0 0) := alloc_cell (alloc_cell y0)
            have fbe1 : ((W.alloc (.cells #[.int .u64 (at_ : Int), .int .u64 (a : Int), .int .u64 (b : Int)] 45)).alloc (.cells #[] 45)).cell? ⟨w.heap.size, 0, none⟩ = some (.int .u64 (a : Int)) := alloc_cell (alloc_cell x0)
            have fbe2 : ((W.alloc (.cells #[.int .u64 (at_ : Int), .int .u64 (a : Int), .int .u64 (b : Int)] 45)).alloc (.cells #[] 45)).cell? ⟨w.heap.size, 1, none⟩ = some (.int .u64 (b : Int)) := alloc_cell (alloc_cell x1)
            have HR1 := Lib.hid (show Row W none ([] : List Value) from fun h => absurd rfl h)
            have HR3 := Lib.hid (show Row W none ([] : List Value) from fun h => absurd rfl h)
            have HL := Lib.hid (And.intro (show ([] : List Value).length = 0 * 3 from rfl) (show ([] : List Value).length = 0 * 3 from rfl))
            have HZ := Lib.hid (show 0 + 0 ≤ maxLen ∧ (0 + 0) * 24 ≤ 140737488355328 ∧ 0 + 1 ≤ maxLen ∧ (0 + 1) * 24 ≤ 140737488355328 ∧ (0 + 1) + 0 ≤ maxLen ∧ ((0 + 1) + 0) * 24 ≤ 140737488355328 by unfold maxLen; decide)
            have HO1 := Lib.hid (show ∀ u ∈ ([] : List Value), u.oneCell' = true by simp)
            have HO3 := HO1
            have HLN := Lib.hid (And.intro (show (Wt.mk at_ a b).cells.length = 1 * 3 from rfl) (el_e.one ⟨at_, a, b⟩))
            have HW1 := Lib.hid (fun (A B : Obj) => And.intro (HR1.out.below ((Below.refl _ W).alloc (Nat.le_refl _) A)) (HR1.out.below (((Below.refl _ W).alloc (Nat.le_refl _) A).alloc ((Below.refl _ W).alloc (Nat.le_refl _) A).size B)))
            have HP := Lib.hid (fun (w2 : World) (hb : Below W.heap.size W w2) => And.intro ((Chg.of_below hb (fun _ => False)).heap hpW (fun h => h)) ((Chg.of_below hb (fun _ => False)).heap hTW (fun h => h)))
            have HOA := Lib.hid (And.intro (Own.alloc0 W 3 45 (0, 0)).drew (And.intro (fun BV : Obj => ((Own.alloc0 W 3 45 (0, 0)).keep ((Chg.refl (fun _ => False) _).alloc BV) (fun _ _ h => h)).drew) (fun BV : Obj => by have q := (Own.alloc0 (W.alloc BV) 3 45 (0, 0)).drew; rw [size_alloc] at q; exact q)))
            clear hpW hTW hoW y0 y2 x0 x1 x2
            have hSd := And.intro fd0 (And.intro fd1 fd2)
            have hSe := And.intro fe0 (And.intro fe1 fe2)
            have hSb := And.intro fb0 (And.intro fb1 fb2)
            have hSeb := And.intro feb0 (And.intro feb1 feb2)
            have hSbe := And.intro fbe0 (And.intro fbe1 fbe2)
            go_upto_region 11 with fail
            refine wp_region_noPanic ?_
            refine wp_region_last (n := 23) (m := 23) (S := fun wx => wx.cell? ⟨p, 0, none⟩ = some (.slice none 0 0) ∧ wx.cell? ⟨w.heap.size, 0, none⟩ = some (.int .u64 (a : Int)) ∧ wx.cell? ⟨w.heap.size, 1, none⟩ = some (.int .u64 (b : Int))) (by kernel_rfl) rfl rfl (by kernel_rfl) hSd (fun hHeld => ?_)
            refine wpAnyH_take (i := 0) (oi := { dst := some 74, op := Op.move (Operand.tmp 0), type := 26, pos := "ref.go:391", after := #[], guard := none }) (v := ?v700) rfl (by kernel_rfl) (by kernel_rfl) (by kernel_rfl) (fun _ _ _ h => h) (Or.inl ⟨by rfl, ?hy700⟩) (by assumption) ?rest700
            case hy700 => (intro w hSw; (try dsimp only at hSw); (try obtain ⟨hSw, hSw1, hSw2⟩ := hSw); go_simp; all_goals (with_reducible rfl))
            (try simp only [Act.put, List.setIfInBounds_toArray, List.set_cons_zero, List.set_cons_succ])
            refine wpAnyH_take (i := 2) (oi := { dst := some 76, op := Op.move (Operand.tmp 0), type := 26, pos := "ref.go:391", after := #[], guard := none }) (v := ?v802) rfl (by kernel_rfl) (by kernel_rfl) (by kernel_rfl) (fun _ _ _ h => h) (Or.inl ⟨by rfl, ?hy802⟩) (by assumption) ?rest802
            case hy802 => (intro w hSw; (try dsimp only at hSw); (try obtain ⟨hSw, hSw1, hSw2⟩ := hSw); go_simp; all_goals (with_reducible rfl))
            (try simp only [Act.put, List.setIfInBounds_toArray, List.set_cons_zero, List.set_cons_succ])
            refine wpAnyH_take (i := 3) (oi := { dst := some 77, op := Op.nilCheck (Operand.tmp 76), type := 0, pos := "ref.go:391", after := #[{ on := 2, ground := Ground.data }], guard := none }) (v := ?v903) rfl (by kernel_rfl) (by kernel_rfl) (by kernel_rfl) (fun _ _ _ h => h) (Or.inl ⟨by rfl, ?hy903⟩) (by assumption) ?rest903
            case hy903 => (intro w hSw; (try dsimp only at hSw); (try obtain ⟨hSw, hSw1, hSw2⟩ := hSw); go_simp; all_goals (with_reducible rfl))
            (try simp only [Act.put, List.setIfInBounds_toArray, List.set_cons_zero, List.set_cons_succ])
            refine wpAnyH_take (i := 4) (oi := { dst := some 78, op := Op.fieldAddr 29 (Operand.tmp 77) 0, type := 0, pos := "ref.go:391", after := #[{ on := 3, ground := Ground.data }], guard := none }) (v := ?v1004) rfl (by kernel_rfl) (by kernel_rfl) (by kernel_rfl) (fun _ _ _ h => h) (Or.inl ⟨by rfl, ?hy1004⟩) (by assumption) ?rest1004
            case hy1004 => (intro w hSw; (try dsimp only at hSw); (try obtain ⟨hSw, hSw1, hSw2⟩ := hSw); go_simp; all_goals (with_reducible rfl))
            (try simp only [Act.put, List.setIfInBounds_toArray, List.set_cons_zero, List.set_cons_succ])
            refine wpAnyH_take (i := 5) (oi := { dst := some 79, op := Op.load 27 (Operand.tmp 78), type := 27, pos := "ref.go:391", after := #[{ on := 4, ground := Ground.data }], guard := none }) (v := ?v1105) rfl (by kernel_rfl) (by kernel_rfl) (by kernel_rfl) (fun _ _ _ h => h) (Or.inl ⟨by rfl, ?hy1105⟩) (by assumption) ?rest1105
            case hy1105 => (intro w hSw; (try dsimp only at hSw); (try obtain ⟨hSw, hSw1, hSw2⟩ := hSw); go_simp; all_goals (with_reducible rfl))
            (try simp only [Act.put, List.setIfInBounds_toArray, List.set_cons_zero, List.set_cons_succ])
            refine wpAnyH_take (i := 6) (oi := { dst := some 80, op := Op.move (Operand.tmp 8), type := 3, pos := "ref.go:391", after := #[], guard := none }) (v := ?v1206) rfl (by kernel_rfl) (by kernel_rfl) (by kernel_rfl) (fun _ _ _ h => h) (Or.inl ⟨by rfl, ?hy1206⟩) (by assumption) ?rest1206
            case hy1206 => (intro w hSw; (try dsimp only at hSw); (try obtain ⟨hSw, hSw1, hSw2⟩ := hSw); go_simp; all_goals (with_reducible rfl))
            (try simp only [Act.put, List.setIfInBounds_toArray, List.set_cons_zero, List.set_cons_succ])
            refine wpAnyH_take (i := 7) (oi := { dst := some 81, op := Op.slice 27 (Operand.tmp 79) none (some (Operand.tmp 80)) none, type := 27, pos := "ref.go:391", after := #[{ on := 5, ground := Ground.data }, { on := 6, ground := Ground.data }], guard := none }) (v := ?v1307) rfl (by kernel_rfl) (by kernel_rfl) (by kernel_rfl) (fun _ _ _ h => h) (Or.inl ⟨by rfl, ?hy1307⟩) (by assumption) ?rest1307
            case hy1307 => (intro w hSw; (try dsimp only at hSw); (try obtain ⟨hSw, hSw1, hSw2⟩ := hSw); go_simp; all_goals (with_reducible rfl))
            (try simp only [Act.put, List.setIfInBounds_toArray, List.set_cons_zero, List.set_cons_succ])
            refine wpAnyH_take (i := 9) (oi := { dst := some 83, op := Op.move (Operand.tmp 2), type := 30, pos := "ref.go:391", after := #[], guard := none }) (v := ?v1409) rfl (by kernel_rfl) (by kernel_rfl) (by kernel_rfl) (fun _ _ _ h => h) (Or.inl ⟨by rfl, ?hy1409⟩) (by assumption) ?rest1409
            case hy1409 => (intro w hSw; (try dsimp only at hSw); (try obtain ⟨hSw, hSw1, hSw2⟩ := hSw); go_simp; all_goals (with_reducible rfl))
            (try simp only [Act.put, List.setIfInBounds_toArray, List.set_cons_zero, List.set_cons_succ])
            refine wpAnyH_take (i := 10) (oi := { dst := some 84, op := Op.load 32 (Operand.tmp 4), type := 32, pos := "ref.go:391", after := #[], guard := none }) (v := ?v1510) rfl (by kernel_rfl) (by kernel_rfl) (by kernel_rfl) (fun _ _ _ h => h) (Or.inl ⟨by rfl, ?hy1510⟩) (by assumption) ?rest1510
            case hy1510 => (intro w hSw; (try dsimp only at hSw); (try obtain ⟨hSw, hSw1, hSw2⟩ := hSw); go_simp; all_goals (with_reducible rfl))
            (try simp only [Act.put, List.setIfInBounds_toArray, List.set_cons_zero, List.set_cons_succ])
            refine wpAnyH_take (i := 11) (oi := { dst := some 85, op := Op.build 45 #[(0, Operand.tmp 83), (1, Operand.tmp 84)], type := 45, pos := "ref.go:391", after := #[{ on := 9, ground := Ground.data }, { on := 10, ground := Ground.data }], guard := none }) (v := ?v1611) rfl (by kernel_rfl) (by kernel_rfl) (by kernel_rfl) (fun _ _ _ h => h) (Or.inl ⟨by rfl, ?hy1611⟩) (by assumption) ?rest1611
            case hy1611 => (intro w hSw; (try dsimp only at hSw); (try obtain ⟨hSw, hSw1, hSw2⟩ := hSw); go_simp; all_goals (with_reducible rfl))
            (try simp only [Act.put, List.setIfInBounds_toArray, List.set_cons_zero, List.set_cons_succ])
            refine wpAnyH_take (i := 14) (oi := { dst := some 88, op := Op.move (Operand.tmp 0), type := 26, pos := "ref.go:391", after := #[], guard := none }) (v := ?v1714) rfl (by kernel_rfl) (by kernel_rfl) (by kernel_rfl) (fun _ _ _ h => h) (Or.inl ⟨by rfl, ?hy1714⟩) (by assumption) ?rest1714
            case hy1714 => (intro w hSw; (try dsimp only at hSw); (try obtain ⟨hSw, hSw1, hSw2⟩ := hSw); go_simp; all_goals (with_reducible rfl))
            (try simp only [Act.put, List.setIfInBounds_toArray, List.set_cons_zero, List.set_cons_succ])
            refine wpAnyH_take (i := 15) (oi := { dst := some 89, op := Op.nilCheck (Operand.tmp 88), type := 0, pos := "ref.go:391", after := #[{ on := 14, ground := Ground.data }], guard := none }) (v := ?v1815) rfl (by kernel_rfl) (by kernel_rfl) (by kernel_rfl) (fun _ _ _ h => h) (Or.inl ⟨by rfl, ?hy1815⟩) (by assumption) ?rest1815
            case hy1815 => (intro w hSw; (try dsimp only at hSw); (try obtain ⟨hSw, hSw1, hSw2⟩ := hSw); go_simp; all_goals (with_reducible rfl))
            (try simp only [Act.put, List.setIfInBounds_toArray, List.set_cons_zero, List.set_cons_succ])
            refine wpAnyH_take (i := 16) (oi := { dst := some 90, op := Op.fieldAddr 29 (Operand.tmp 89) 0, type := 0, pos := "ref.go:391", after := #[{ on := 15, ground := Ground.data }], guard := none }) (v := ?v1916) rfl (by kernel_rfl) (by kernel_rfl) (by kernel_rfl) (fun _ _ _ h => h) (Or.inl ⟨by rfl, ?hy1916⟩) (by assumption) ?rest1916
            case hy1916 => (intro w hSw; (try dsimp only at hSw); (try obtain ⟨hSw, hSw1, hSw2⟩ := hSw); go_simp; all_goals (with_reducible rfl))
            (try simp only [Act.put, List.setIfInBounds_toArray, List.set_cons_zero, List.set_cons_succ])
            refine wpAnyH_take (i := 17) (oi := { dst := some 91, op := Op.load 27 (Operand.tmp 90), type := 27, pos := "ref.go:391", after := #[{ on := 16, ground := Ground.data }], guard := none }) (v := ?v2017) rfl (by kernel_rfl) (by kernel_rfl) (by kernel_rfl) (fun _ _ _ h => h) (Or.inl ⟨by rfl, ?hy2017⟩) (by assumption) ?rest2017
            case hy2017 => (intro w hSw; (try dsimp only at hSw); (try obtain ⟨hSw, hSw1, hSw2⟩ := hSw); go_simp; all_goals (with_reducible rfl))
            (try simp only [Act.put, List.setIfInBounds_toArray, List.set_cons_zero, List.set_cons_succ])
            refine wpAnyH_take (i := 18) (oi := { dst := some 92, op := Op.move (Operand.tmp 8), type := 3, pos := "ref.go:391", after := #[], guard := none }) (v := ?v2118) rfl (by kernel_rfl) (by kernel_rfl) (by kernel_rfl) (fun _ _ _ h => h) (Or.inl ⟨by rfl, ?hy2118⟩) (by assumption) ?rest2118
            case hy2118 => (intro w hSw; (try dsimp only at hSw); (try obtain ⟨hSw, hSw1, hSw2⟩ := hSw); go_simp; all_goals (with_reducible rfl))
            (try simp only [Act.put, List.setIfInBounds_toArray, List.set_cons_zero, List.set_cons_succ])
            refine wpAnyH_take (i := 19) (oi := { dst := some 93, op := Op.slice 27 (Operand.tmp 91) (some (Operand.tmp 92)) none none, type := 27, pos := "ref.go:391", after := #[{ on := 17, ground := Ground.data }, { on := 18, ground := Ground.data }], guard := none }) (v := ?v2219) rfl (by kernel_rfl) (by kernel_rfl) (by kernel_rfl) (fun _ _ _ h => h) (Or.inl ⟨by rfl, ?hy2219⟩) (by assumption) ?rest2219
            case hy2219 => (intro w hSw; (try dsimp only at hSw); (try obtain ⟨hSw, hSw1, hSw2⟩ := hSw); go_simp; all_goals (with_reducible rfl))
            (try simp only [Act.put, List.setIfInBounds_toArray, List.set_cons_zero, List.set_cons_succ])
            refine wpAnyH_ready (rs := [1, 12]) (by kernel_rfl) (by simp) ?_
            refine AllReadyH.cons (o := { dst := some 75, op := Op.buildSlice 27 0 #[], type := 27, pos := "ref.go:391", after := #[], guard := none }) rfl (fun K hK => ?_) (AllReadyH.cons (o := { dst := some 86, op := Op.buildSlice 27 1 #[(0, Operand.tmp 85)], type := 27, pos := "ref.go:391", after := #[{ on := 11, ground := Ground.data }], guard := none }) rfl (fun K hK => ?_) AllReadyH.nil)
            · go_simp
              refine hK.out _ _ (hSe) (fun hHeld => ?_)
              clear hK K
              (try simp only [Act.put, List.setIfInBounds_toArray, List.set_cons_zero, List.set_cons_succ])
              refine wpAnyH_ready (rs := [8, 12]) (by kernel_rfl) (by simp) ?_
              refine AllReadyH.cons (o := { dst := some 82, op := Op.call { callee := Callee.builtin Builtin.append, args := #[Operand.tmp 75, Operand.tmp 81], argTypes := #[27, 27] }, type := 27, pos := "ref.go:391", after := #[{ on := 1, ground := Ground.data }, { on := 7, ground := Ground.data }], guard := none }) rfl (fun K hK => ?_) (AllReadyH.cons (o := { dst := some 86, op := Op.buildSlice 27 1 #[(0, Operand.tmp 85)], type := 27, pos := "ref.go:391", after := #[{ on := 11, ground := Ground.data }], guard := none }) rfl (fun K hK => ?_) AllReadyH.nil)
              · refine step_append' rfl (.tmp 75) (.tmp 81) el_s rfl (c := 0) ?hs ?hx HOA.out.1 HL.out.1 (HW1.out _ (.cells #[] 0)).1.drew HO1.out HZ.out.1 HZ.out.2.1 ?_
                (case hs => simp [Act.eval, Act.put])
                (case hx => simp [Act.eval, Act.put])
                intro xo xc w2 hx hch _ hx2
                simp only [Nat.zero_add]
                have hm := wmid_a hx hch hx2
                obtain ⟨v0, v2⟩ := cells1 (HP.out _ hm.below).1
                obtain ⟨v3, v4, v5⟩ := cells2 (HP.out _ hm.below).2
                have vv0 := alloc_cell (o := (.cells #[.int .u64 (at_ : Int), .int .u64 (a : Int), .int .u64 (b : Int)] 45)) v0
                have hS2 := And.intro v3 v4
                have hS3 := And.intro (alloc_cell (o := (.cells #[.int .u64 (at_ : Int), .int .u64 (a : Int), .int .u64 (b : Int)] 45)) v3) (alloc_cell (o := (.cells #[.int .u64 (at_ : Int), .int .u64 (a : Int), .int .u64 (b : Int)] 45)) v4)
                have hSx := And.intro v0 (And.intro v3 v4)
                have hSy := And.intro vv0 (And.intro (alloc_cell (o := (.cells #[.int .u64 (at_ : Int), .int .u64 (a : Int), .int .u64 (b : Int)] 45)) v3) (alloc_cell (o := (.cells #[.int .u64 (at_ : Int), .int .u64 (a : Int), .int .u64 (b : Int)] 45)) v4))
                have H2 := Lib.hid (And.intro (hm.below.alloc hm.below.size (.cells #[.int .u64 (at_ : Int), .int .u64 (a : Int), .int .u64 (b : Int)] 45)) (And.intro hm.new (And.intro (hm.own.keep ((Chg.refl (fun _ => False) w2).alloc (.cells #[.int .u64 (at_ : Int), .int .u64 (a : Int), .int .u64 (b : Int)] 45)) (fun _ _ h => h)) (Row.alloc w2 #[.int .u64 (at_ : Int), .int .u64 (a : Int), .int .u64 (b : Int)] 45 (0, 0)))))
                clear hx hch hx2 hm
                refine hK.out _ _ (hSx) (fun hHeld => ?_)
                clear hK K
                (try simp only [Act.put, List.setIfInBounds_toArray, List.set_cons_zero, List.set_cons_succ])
                refine wpAnyH_ready (rs := [12]) (by kernel_rfl) (by simp) ?_
                refine AllReadyH.cons (o := { dst := some 86, op := Op.buildSlice 27 1 #[(0, Operand.tmp 85)], type := 27, pos := "ref.go:391", after := #[{ on := 11, ground := Ground.data }], guard := none }) rfl (fun K hK => ?_) AllReadyH.nil
                go_simp
                refine hK.out _ _ (hSy) (fun hHeld => ?_)
                clear hK K
                (try simp only [Act.put, List.setIfInBounds_toArray, List.set_cons_zero, List.set_cons_succ])
                refine wpAnyH_ready (rs := [13]) (by kernel_rfl) (by simp) ?_
                refine AllReadyH.cons (o := { dst := some 87, op := Op.call { callee := Callee.builtin Builtin.append, args := #[Operand.tmp 82, Operand.tmp 86], argTypes := #[27, 27] }, type := 27, pos := "ref.go:391", after := #[{ on := 8, ground := Ground.data }, { on := 12, ground := Ground.data }, { on := 8, ground := Ground.chain }], guard := none }) rfl (fun K hK => ?_) AllReadyH.nil
                refine step_append' rfl (.tmp 82) (.tmp 86) el_s rfl (c := 1) ?hs ?hx H2.out.2.2.1 HLN.out.1 H2.out.2.2.2 HLN.out.2 HZ.out.2.2.1 HZ.out.2.2.2.1 ?_
                (case hs => simp [Act.eval, Act.put])
                (case hx => simp [Act.eval, Act.put])
                intro yo yc w3 hx hch _ hx2
                have hm := wmid_next H2.out.1 H2.out.2.1 hx hch hx2
                obtain ⟨q0, q2⟩ := cells1 (HP.out _ hm.below).1
                obtain ⟨q3, q4, _⟩ := cells2 (HP.out _ hm.below).2
                have hS3 := And.intro q3 q4
                have H3 := Lib.hid hm
                clear hx hch hx2 hm
                refine hK.out _ _ (And.intro ((cells1 (HP.out _ H3.out.below).1).1) (And.intro ((cells2 (HP.out _ H3.out.below).2).1) ((cells2 (HP.out _ H3.out.below).2).2.1))) (fun hHeld => ?_)
                clear hK K
                (try simp only [Act.put, List.setIfInBounds_toArray, List.set_cons_zero, List.set_cons_succ])
                refine wpAnyH_ready (rs := [20]) (by kernel_rfl) (by simp) ?_
                refine AllReadyH.cons (o := { dst := some 94, op := Op.call { callee := Callee.builtin Builtin.append, args := #[Operand.tmp 87, Operand.tmp 93], argTypes := #[27, 27] }, type := 27, pos := "ref.go:391", after := #[{ on := 13, ground := Ground.data }, { on := 19, ground := Ground.data }, { on := 13, ground := Ground.chain }], guard := none }) rfl (fun K hK => ?_) AllReadyH.nil
                refine step_append' rfl (.tmp 87) (.tmp 93) el_s rfl (c := 0) ?hs ?hx H3.out.own HL.out.2 (HR3.out.below H3.out.below) HO3.out HZ.out.2.2.2.2.1 HZ.out.2.2.2.2.2 ?_
                (case hs => simp [Act.eval, Act.put])
                (case hx => simp [Act.eval, Act.put])
                intro uo uc w4 hx hch _ hx2
                have hm := wmid_next H3.out.below H3.out.new hx hch hx2
                obtain ⟨s0, s2⟩ := cells1 (HP.out _ hm.below).1
                have hu := fun v => cells2 ((Chg.one w4 p 0 v).heap (HP.out _ hm.below).2 (fun e => absurd (e : w.heap.size = p) (Nat.ne_of_gt hpl)))
                obtain ⟨u3, u4, _⟩ := cells2 (HP.out _ hm.below).2
                have hS4 := And.intro u3 u4
                have hS5 := fun v => And.intro (hu v).1 (hu v).2.1
                clear hu
                have H4 := Lib.hid hm
                clear hx hch hx2 hm
                refine hK.out _ _ (And.intro ((cells1 (HP.out _ H4.out.below).1).1) (And.intro ((cells2 (HP.out _ H4.out.below).2).1) ((cells2 (HP.out _ H4.out.below).2).2.1))) (fun hHeld => ?_)
                clear hK K
                (try simp only [Act.put, List.setIfInBounds_toArray, List.set_cons_zero, List.set_cons_succ])
                refine wpAnyH_take (i := 21) (oi := { dst := some 95, op := Op.nilCheck (Operand.tmp 74), type := 0, pos := "ref.go:391", after := #[{ on := 0, ground := Ground.data }, { on := 0, ground := Ground.phase }, { on := 1, ground := Ground.phase }, { on := 2, ground := Ground.phase }, { on := 3, ground := Ground.phase }, { on := 4, ground := Ground.phase }, { on := 5, ground := Ground.phase }, { on := 6, ground := Ground.phase }, { on := 7, ground := Ground.phase }, { on := 8, ground := Ground.phase }, { on := 9, ground := Ground.phase }, { on := 10, ground := Ground.phase }, { on := 11, ground := Ground.phase }, { on := 12, ground := Ground.phase }, { on := 13, ground := Ground.phase }, { on := 14, ground := Ground.phase }, { on := 15, ground := Ground.phase }, { on := 16, ground := Ground.phase }, { on := 17, ground := Ground.phase }, { on := 18, ground := Ground.phase }, { on := 19, ground := Ground.phase }, { on := 20, ground := Ground.phase }], guard := none }) (v := ?v121) rfl (by kernel_rfl) (by kernel_rfl) (by kernel_rfl) (fun _ _ _ h => h) (Or.inl ⟨by rfl, ?hy121⟩) (by assumption) ?rest121
                case hy121 => (intro w hSw; (try dsimp only at hSw); (try obtain ⟨hSw, hSw1, hSw2⟩ := hSw); go_simp; all_goals (with_reducible rfl))
                (try simp only [Act.put, List.setIfInBounds_toArray, List.set_cons_zero, List.set_cons_succ])
                refine wpAnyH_take (i := 22) (oi := { dst := some 96, op := Op.fieldAddr 29 (Operand.tmp 95) 0, type := 0, pos := "ref.go:391", after := #[{ on := 21, ground := Ground.data }, { on := 0, ground := Ground.phase }, { on := 1, ground := Ground.phase }, { on := 2, ground := Ground.phase }, { on := 3, ground := Ground.phase }, { on := 4, ground := Ground.phase }, { on := 5, ground := Ground.phase }, { on := 6, ground := Ground.phase }, { on := 7, ground := Ground.phase }, { on := 8, ground := Ground.phase }, { on := 9, ground := Ground.phase }, { on := 10, ground := Ground.phase }, { on := 11, ground := Ground.phase }, { on := 12, ground := Ground.phase }, { on := 13, ground := Ground.phase }, { on := 14, ground := Ground.phase }, { on := 15, ground := Ground.phase }, { on := 16, ground := Ground.phase }, { on := 17, ground := Ground.phase }, { on := 18, ground := Ground.phase }, { on := 19, ground := Ground.phase }, { on := 20, ground := Ground.phase }], guard := none }) (v := ?v222) rfl (by kernel_rfl) (by kernel_rfl) (by kernel_rfl) (fun _ _ _ h => h) (Or.inl ⟨by rfl, ?hy222⟩) (by assumption) ?rest222
                case hy222 => (intro w hSw; (try dsimp only at hSw); (try obtain ⟨hSw, hSw1, hSw2⟩ := hSw); go_simp; all_goals (with_reducible rfl))
                (try simp only [Act.put, List.setIfInBounds_toArray, List.set_cons_zero, List.set_cons_succ])
                refine wpAnyH_done (by kernel_rfl) ?_ _
                refine last_do (o := { dst := none, op := Op.store 27 (Operand.tmp 96) (Operand.tmp 94), type := 0, pos := "ref.go:391", after := #[{ on := 22, ground := Ground.data }, { on := 20, ground := Ground.data }, { on := 20, ground := Ground.chain }, { on := 0, ground := Ground.phase }, { on := 1, ground := Ground.phase }, { on := 2, ground := Ground.phase }, { on := 3, ground := Ground.phase }, { on := 4, ground := Ground.phase }, { on := 5, ground := Ground.phase }, { on := 6, ground := Ground.phase }, { on := 7, ground := Ground.phase }, { on := 8, ground := Ground.phase }, { on := 9, ground := Ground.phase }, { on := 10, ground := Ground.phase }, { on := 11, ground := Ground.phase }, { on := 12, ground := Ground.phase }, { on := 13, ground := Ground.phase }, { on := 14, ground := Ground.phase }, { on := 15, ground := Ground.phase }, { on := 16, ground := Ground.phase }, { on := 17, ground := Ground.phase }, { on := 18, ground := Ground.phase }, { on := 19, ground := Ground.phase }, { on := 20, ground := Ground.phase }], guard := none }) rfl (fun K hK => ?_)
                go_simp
                refine hK.out _ _ ?_
                refine NoPanic.normal ?_
                go_wp2
                go_ret
                have hm := H4.out
                rw [HE.out] at hm
                exact ⟨rfl, rend HPF.out HCC.out (HP.out _ hm.below).1 hm.below hm.own (fun a ha => Nat.le_trans HCC.out.size (hm.new a ha)) hpl⟩
              · go_simp
                refine hK.out _ _ (hSeb) (fun hHeld => ?_)
                clear hK K
                (try simp only [Act.put, List.setIfInBounds_toArray, List.set_cons_zero, List.set_cons_succ])
                refine wpAnyH_ready (rs := [8]) (by kernel_rfl) (by simp) ?_
                refine AllReadyH.cons (o := { dst := some 82, op := Op.call { callee := Callee.builtin Builtin.append, args := #[Operand.tmp 75, Operand.tmp 81], argTypes := #[27, 27] }, type := 27, pos := "ref.go:391", after := #[{ on := 1, ground := Ground.data }, { on := 7, ground := Ground.data }], guard := none }) rfl (fun K hK => ?_) AllReadyH.nil
                refine step_append' rfl (.tmp 75) (.tmp 81) el_s rfl (c := 0) ?hs ?hx (HOA.out.2.1 _) HL.out.1 (HW1.out _ _).2.drew HO1.out HZ.out.1 HZ.out.2.1 ?_
                (case hs => simp [Act.eval, Act.put])
                (case hx => simp [Act.eval, Act.put])
                intro xo xc w2 hx hch _ hx2
                simp only [Nat.zero_add]
                have hm := wmid_b hx hch hx2
                obtain ⟨v0, v2⟩ := cells1 (HP.out _ hm.1.below).1
                obtain ⟨v3, v4, v5⟩ := cells2 (HP.out _ hm.1.below).2
                have hS2 := And.intro v3 v4
                have H2 := Lib.hid (And.intro hm.1.below (And.intro hm.1.new (And.intro hm.1.own hm.2)))
                clear hx hch hx2 hm
                refine hK.out _ _ (And.intro ((cells1 (HP.out _ H2.out.1).1).1) (And.intro ((cells2 (HP.out _ H2.out.1).2).1) ((cells2 (HP.out _ H2.out.1).2).2.1))) (fun hHeld => ?_)
                clear hK K
                (try simp only [Act.put, List.setIfInBounds_toArray, List.set_cons_zero, List.set_cons_succ])
                refine wpAnyH_ready (rs := [13]) (by kernel_rfl) (by simp) ?_
                refine AllReadyH.cons (o := { dst := some 87, op := Op.call { callee := Callee.builtin Builtin.append, args := #[Operand.tmp 82, Operand.tmp 86], argTypes := #[27, 27] }, type := 27, pos := "ref.go:391", after := #[{ on := 8, ground := Ground.data }, { on := 12, ground := Ground.data }, { on := 8, ground := Ground.chain }], guard := none }) rfl (fun K hK => ?_) AllReadyH.nil
                refine step_append' rfl (.tmp 82) (.tmp 86) el_s rfl (c := 1) ?hs ?hx H2.out.2.2.1 HLN.out.1 H2.out.2.2.2 HLN.out.2 HZ.out.2.2.1 HZ.out.2.2.2.1 ?_
                (case hs => simp [Act.eval, Act.put])
                (case hx => simp [Act.eval, Act.put])
                intro yo yc w3 hx hch _ hx2
                have hm := wmid_next H2.out.1 H2.out.2.1 hx hch hx2
                obtain ⟨q0, q2⟩ := cells1 (HP.out _ hm.below).1
                obtain ⟨q3, q4, _⟩ := cells2 (HP.out _ hm.below).2
                have hS3 := And.intro q3 q4
                have H3 := Lib.hid hm
                clear hx hch hx2 hm
                refine hK.out _ _ (And.intro ((cells1 (HP.out _ H3.out.below).1).1) (And.intro ((cells2 (HP.out _ H3.out.below).2).1) ((cells2 (HP.out _ H3.out.below).2).2.1))) (fun hHeld => ?_)
                clear hK K
                (try simp only [Act.put, List.setIfInBounds_toArray, List.set_cons_zero, List.set_cons_succ])
                refine wpAnyH_ready (rs := [20]) (by kernel_rfl) (by simp) ?_
                refine AllReadyH.cons (o := { dst := some 94, op := Op.call { callee := Callee.builtin Builtin.append, args := #[Operand.tmp 87, Operand.tmp 93], argTypes := #[27, 27] }, type := 27, pos := "ref.go:391", after := #[{ on := 13, ground := Ground.data }, { on := 19, ground := Ground.data }, { on := 13, ground := Ground.chain }], guard := none }) rfl (fun K hK => ?_) AllReadyH.nil
                refine step_append' rfl (.tmp 87) (.tmp 93) el_s rfl (c := 0) ?hs ?hx H3.out.own HL.out.2 (HR3.out.below H3.out.below) HO3.out HZ.out.2.2.2.2.1 HZ.out.2.2.2.2.2 ?_
                (case hs => simp [Act.eval, Act.put])
                (case hx => simp [Act.eval, Act.put])
                intro uo uc w4 hx hch _ hx2
                have hm := wmid_next H3.out.below H3.out.new hx hch hx2
                obtain ⟨s0, s2⟩ := cells1 (HP.out _ hm.below).1
                have hu := fun v => cells2 ((Chg.one w4 p 0 v).heap (HP.out _ hm.below).2 (fun e => absurd (e : w.heap.size = p) (Nat.ne_of_gt hpl)))
                obtain ⟨u3, u4, _⟩ := cells2 (HP.out _ hm.below).2
                have hS4 := And.intro u3 u4
                have hS5 := fun v => And.intro (hu v).1 (hu v).2.1
                clear hu
                have H4 := Lib.hid hm
                clear hx hch hx2 hm
                refine hK.out _ _ (And.intro ((cells1 (HP.out _ H4.out.below).1).1) (And.intro ((cells2 (HP.out _ H4.out.below).2).1) ((cells2 (HP.out _ H4.out.below).2).2.1))) (fun hHeld => ?_)
                clear hK K
                (try simp only [Act.put, List.setIfInBounds_toArray, List.set_cons_zero, List.set_cons_succ])
                refine wpAnyH_take (i := 21) (oi := { dst := some 95, op := Op.nilCheck (Operand.tmp 74), type := 0, pos := "ref.go:391", after := #[{ on := 0, ground := Ground.data }, { on := 0, ground := Ground.phase }, { on := 1, ground := Ground.phase }, { on := 2, ground := Ground.phase }, { on := 3, ground := Ground.phase }, { on := 4, ground := Ground.phase }, { on := 5, ground := Ground.phase }, { on := 6, ground := Ground.phase }, { on := 7, ground := Ground.phase }, { on := 8, ground := Ground.phase }, { on := 9, ground := Ground.phase }, { on := 10, ground := Ground.phase }, { on := 11, ground := Ground.phase }, { on := 12, ground := Ground.phase }, { on := 13, ground := Ground.phase }, { on := 14, ground := Ground.phase }, { on := 15, ground := Ground.phase }, { on := 16, ground := Ground.phase }, { on := 17, ground := Ground.phase }, { on := 18, ground := Ground.phase }, { on := 19, ground := Ground.phase }, { on := 20, ground := Ground.phase }], guard := none }) (v := ?v321) rfl (by kernel_rfl) (by kernel_rfl) (by kernel_rfl) (fun _ _ _ h => h) (Or.inl ⟨by rfl, ?hy321⟩) (by assumption) ?rest321
                case hy321 => (intro w hSw; (try dsimp only at hSw); (try obtain ⟨hSw, hSw1, hSw2⟩ := hSw); go_simp; all_goals (with_reducible rfl))
                (try simp only [Act.put, List.setIfInBounds_toArray, List.set_cons_zero, List.set_cons_succ])
                refine wpAnyH_take (i := 22) (oi := { dst := some 96, op := Op.fieldAddr 29 (Operand.tmp 95) 0, type := 0, pos := "ref.go:391", after := #[{ on := 21, ground := Ground.data }, { on := 0, ground := Ground.phase }, { on := 1, ground := Ground.phase }, { on := 2, ground := Ground.phase }, { on := 3, ground := Ground.phase }, { on := 4, ground := Ground.phase }, { on := 5, ground := Ground.phase }, { on := 6, ground := Ground.phase }, { on := 7, ground := Ground.phase }, { on := 8, ground := Ground.phase }, { on := 9, ground := Ground.phase }, { on := 10, ground := Ground.phase }, { on := 11, ground := Ground.phase }, { on := 12, ground := Ground.phase }, { on := 13, ground := Ground.phase }, { on := 14, ground := Ground.phase }, { on := 15, ground := Ground.phase }, { on := 16, ground := Ground.phase }, { on := 17, ground := Ground.phase }, { on := 18, ground := Ground.phase }, { on := 19, ground := Ground.phase }, { on := 20, ground := Ground.phase }], guard := none }) (v := ?v422) rfl (by kernel_rfl) (by kernel_rfl) (by kernel_rfl) (fun _ _ _ h => h) (Or.inl ⟨by rfl, ?hy422⟩) (by assumption) ?rest422
                case hy422 => (intro w hSw; (try dsimp only at hSw); (try obtain ⟨hSw, hSw1, hSw2⟩ := hSw); go_simp; all_goals (with_reducible rfl))
                (try simp only [Act.put, List.setIfInBounds_toArray, List.set_cons_zero, List.set_cons_succ])
                refine wpAnyH_done (by kernel_rfl) ?_ _
                refine last_do (o := { dst := none, op := Op.store 27 (Operand.tmp 96) (Operand.tmp 94), type := 0, pos := "ref.go:391", after := #[{ on := 22, ground := Ground.data }, { on := 20, ground := Ground.data }, { on := 20, ground := Ground.chain }, { on := 0, ground := Ground.phase }, { on := 1, ground := Ground.phase }, { on := 2, ground := Ground.phase }, { on := 3, ground := Ground.phase }, { on := 4, ground := Ground.phase }, { on := 5, ground := Ground.phase }, { on := 6, ground := Ground.phase }, { on := 7, ground := Ground.phase }, { on := 8, ground := Ground.phase }, { on := 9, ground := Ground.phase }, { on := 10, ground := Ground.phase }, { on := 11, ground := Ground.phase }, { on := 12, ground := Ground.phase }, { on := 13, ground := Ground.phase }, { on := 14, ground := Ground.phase }, { on := 15, ground := Ground.phase }, { on := 16, ground := Ground.phase }, { on := 17, ground := Ground.phase }, { on := 18, ground := Ground.phase }, { on := 19, ground := Ground.phase }, { on := 20, ground := Ground.phase }], guard := none }) rfl (fun K hK => ?_)
                go_simp
                refine hK.out _ _ ?_
                refine NoPanic.normal ?_
                go_wp2
                go_ret
                have hm := H4.out
                rw [HE.out] at hm
                exact ⟨rfl, rend HPF.out HCC.out (HP.out _ hm.below).1 hm.below hm.own (fun a ha => Nat.le_trans HCC.out.size (hm.new a ha)) hpl⟩
            · go_simp
              refine hK.out _ _ (hSb) (fun hHeld => ?_)
              clear hK K
              (try simp only [Act.put, List.setIfInBounds_toArray, List.set_cons_zero, List.set_cons_succ])
              refine wpAnyH_ready (rs := [1]) (by kernel_rfl) (by simp) ?_
              refine AllReadyH.cons (o := { dst := some 75, op := Op.buildSlice 27 0 #[], type := 27, pos := "ref.go:391", after := #[], guard := none }) rfl (fun K hK => ?_) AllReadyH.nil
              go_simp
              refine hK.out _ _ (hSbe) (fun hHeld => ?_)
              clear hK K
              (try simp only [Act.put, List.setIfInBounds_toArray, List.set_cons_zero, List.set_cons_succ])
              refine wpAnyH_ready (rs := [8]) (by kernel_rfl) (by simp) ?_
              refine AllReadyH.cons (o := { dst := some 82, op := Op.call { callee := Callee.builtin Builtin.append, args := #[Operand.tmp 75, Operand.tmp 81], argTypes := #[27, 27] }, type := 27, pos := "ref.go:391", after := #[{ on := 1, ground := Ground.data }, { on := 7, ground := Ground.data }], guard := none }) rfl (fun K hK => ?_) AllReadyH.nil
              refine step_append' rfl (.tmp 75) (.tmp 81) el_s rfl (c := 0) ?hs ?hx (HOA.out.2.2 _) HL.out.1 (HW1.out _ _).2.drew HO1.out HZ.out.1 HZ.out.2.1 ?_
              (case hs => simp [Act.eval, Act.put])
              (case hx => simp [Act.eval, Act.put])
              intro xo xc w2 hx hch _ hx2
              simp only [Nat.zero_add]
              have hm := wmid_c hx hch hx2
              obtain ⟨v0, v2⟩ := cells1 (HP.out _ hm.1.below).1
              obtain ⟨v3, v4, v5⟩ := cells2 (HP.out _ hm.1.below).2
              have hS2 := And.intro v3 v4
              have H2 := Lib.hid (And.intro hm.1.below (And.intro hm.1.new (And.intro hm.1.own hm.2)))
              clear hx hch hx2 hm
              refine hK.out _ _ (And.intro ((cells1 (HP.out _ H2.out.1).1).1) (And.intro ((cells2 (HP.out _ H2.out.1).2).1) ((cells2 (HP.out _ H2.out.1).2).2.1))) (fun hHeld => ?_)
              clear hK K
              (try simp only [Act.put, List.setIfInBounds_toArray, List.set_cons_zero, List.set_cons_succ])
              refine wpAnyH_ready (rs := [13]) (by kernel_rfl) (by simp) ?_
              refine AllReadyH.cons (o := { dst := some 87, op := Op.call { callee := Callee.builtin Builtin.append, args := #[Operand.tmp 82, Operand.tmp 86], argTypes := #[27, 27] }, type := 27, pos := "ref.go:391", after := #[{ on := 8, ground := Ground.data }, { on := 12, ground := Ground.data }, { on := 8, ground := Ground.chain }], guard := none }) rfl (fun K hK => ?_) AllReadyH.nil
              refine step_append' rfl (.tmp 82) (.tmp 86) el_s rfl (c := 1) ?hs ?hx H2.out.2.2.1 HLN.out.1 H2.out.2.2.2 HLN.out.2 HZ.out.2.2.1 HZ.out.2.2.2.1 ?_
              (case hs => simp [Act.eval, Act.put])
              (case hx => simp [Act.eval, Act.put])
              intro yo yc w3 hx hch _ hx2
              have hm := wmid_next H2.out.1 H2.out.2.1 hx hch hx2
              obtain ⟨q0, q2⟩ := cells1 (HP.out _ hm.below).1
              obtain ⟨q3, q4, _⟩ := cells2 (HP.out _ hm.below).2
              have hS3 := And.intro q3 q4
              have H3 := Lib.hid hm
              clear hx hch hx2 hm
              refine hK.out _ _ (And.intro ((cells1 (HP.out _ H3.out.below).1).1) (And.intro ((cells2 (HP.out _ H3.out.below).2).1) ((cells2 (HP.out _ H3.out.below).2).2.1))) (fun hHeld => ?_)
              clear hK K
              (try simp only [Act.put, List.setIfInBounds_toArray, List.set_cons_zero, List.set_cons_succ])
              refine wpAnyH_ready (rs := [20]) (by kernel_rfl) (by simp) ?_
              refine AllReadyH.cons (o := { dst := some 94, op := Op.call { callee := Callee.builtin Builtin.append, args := #[Operand.tmp 87, Operand.tmp 93], argTypes := #[27, 27] }, type := 27, pos := "ref.go:391", after := #[{ on := 13, ground := Ground.data }, { on := 19, ground := Ground.data }, { on := 13, ground := Ground.chain }], guard := none }) rfl (fun K hK => ?_) AllReadyH.nil
              refine step_append' rfl (.tmp 87) (.tmp 93) el_s rfl (c := 0) ?hs ?hx H3.out.own HL.out.2 (HR3.out.below H3.out.below) HO3.out HZ.out.2.2.2.2.1 HZ.out.2.2.2.2.2 ?_
              (case hs => simp [Act.eval, Act.put])
              (case hx => simp [Act.eval, Act.put])
              intro uo uc w4 hx hch _ hx2
              have hm := wmid_next H3.out.below H3.out.new hx hch hx2
              obtain ⟨s0, s2⟩ := cells1 (HP.out _ hm.below).1
              have hu := fun v => cells2 ((Chg.one w4 p 0 v).heap (HP.out _ hm.below).2 (fun e => absurd (e : w.heap.size = p) (Nat.ne_of_gt hpl)))
              obtain ⟨u3, u4, _⟩ := cells2 (HP.out _ hm.below).2
              have hS4 := And.intro u3 u4
              have hS5 := fun v => And.intro (hu v).1 (hu v).2.1
              clear hu
              have H4 := Lib.hid hm
              clear hx hch hx2 hm
              refine hK.out _ _ (And.intro ((cells1 (HP.out _ H4.out.below).1).1) (And.intro ((cells2 (HP.out _ H4.out.below).2).1) ((cells2 (HP.out _ H4.out.below).2).2.1))) (fun hHeld => ?_)
              clear hK K
              (try simp only [Act.put, List.setIfInBounds_toArray, List.set_cons_zero, List.set_cons_succ])
              refine wpAnyH_take (i := 21) (oi := { dst := some 95, op := Op.nilCheck (Operand.tmp 74), type := 0, pos := "ref.go:391", after := #[{ on := 0, ground := Ground.data }, { on := 0, ground := Ground.phase }, { on := 1, ground := Ground.phase }, { on := 2, ground := Ground.phase }, { on := 3, ground := Ground.phase }, { on := 4, ground := Ground.phase }, { on := 5, ground := Ground.phase }, { on := 6, ground := Ground.phase }, { on := 7, ground := Ground.phase }, { on := 8, ground := Ground.phase }, { on := 9, ground := Ground.phase }, { on := 10, ground := Ground.phase }, { on := 11, ground := Ground.phase }, { on := 12, ground := Ground.phase }, { on := 13, ground := Ground.phase }, { on := 14, ground := Ground.phase }, { on := 15, ground := Ground.phase }, { on := 16, ground := Ground.phase }, { on := 17, ground := Ground.phase }, { on := 18, ground := Ground.phase }, { on := 19, ground := Ground.phase }, { on := 20, ground := Ground.phase }], guard := none }) (v := ?v521) rfl (by kernel_rfl) (by kernel_rfl) (by kernel_rfl) (fun _ _ _ h => h) (Or.inl ⟨by rfl, ?hy521⟩) (by assumption) ?rest521
              case hy521 => (intro w hSw; (try dsimp only at hSw); (try obtain ⟨hSw, hSw1, hSw2⟩ := hSw); go_simp; all_goals (with_reducible rfl))
              (try simp only [Act.put, List.setIfInBounds_toArray, List.set_cons_zero, List.set_cons_succ])
              refine wpAnyH_take (i := 22) (oi := { dst := some 96, op := Op.fieldAddr 29 (Operand.tmp 95) 0, type := 0, pos := "ref.go:391", after := #[{ on := 21, ground := Ground.data }, { on := 0, ground := Ground.phase }, { on := 1, ground := Ground.phase }, { on := 2, ground := Ground.phase }, { on := 3, ground := Ground.phase }, { on := 4, ground := Ground.phase }, { on := 5, ground := Ground.phase }, { on := 6, ground := Ground.phase }, { on := 7, ground := Ground.phase }, { on := 8, ground := Ground.phase }, { on := 9, ground := Ground.phase }, { on := 10, ground := Ground.phase }, { on := 11, ground := Ground.phase }, { on := 12, ground := Ground.phase }, { on := 13, ground := Ground.phase }, { on := 14, ground := Ground.phase }, { on := 15, ground := Ground.phase }, { on := 16, ground := Ground.phase }, { on := 17, ground := Ground.phase }, { on := 18, ground := Ground.phase }, { on := 19, ground := Ground.phase }, { on := 20, ground := Ground.phase }], guard := none }) (v := ?v622) rfl (by kernel_rfl) (by kernel_rfl) (by kernel_rfl) (fun _ _ _ h => h) (Or.inl ⟨by rfl, ?hy622⟩) (by assumption) ?rest622
              case hy622 => (intro w hSw; (try dsimp only at hSw); (try obtain ⟨hSw, hSw1, hSw2⟩ := hSw); go_simp; all_goals (with_reducible rfl))
              (try simp only [Act.put, List.setIfInBounds_toArray, List.set_cons_zero, List.set_cons_succ])
              refine wpAnyH_done (by kernel_rfl) ?_ _
              refine last_do (o := { dst := none, op := Op.store 27 (Operand.tmp 96) (Operand.tmp 94), type := 0, pos := "ref.go:391", after := #[{ on := 22, ground := Ground.data }, { on := 20, ground := Ground.data }, { on := 20, ground := Ground.chain }, { on := 0, ground := Ground.phase }, { on := 1, ground := Ground.phase }, { on := 2, ground := Ground.phase }, { on := 3, ground := Ground.phase }, { on := 4, ground := Ground.phase }, { on := 5, ground := Ground.phase }, { on := 6, ground := Ground.phase }, { on := 7, ground := Ground.phase }, { on := 8, ground := Ground.phase }, { on := 9, ground := Ground.phase }, { on := 10, ground := Ground.phase }, { on := 11, ground := Ground.phase }, { on := 12, ground := Ground.phase }, { on := 13, ground := Ground.phase }, { on := 14, ground := Ground.phase }, { on := 15, ground := Ground.phase }, { on := 16, ground := Ground.phase }, { on := 17, ground := Ground.phase }, { on := 18, ground := Ground.phase }, { on := 19, ground := Ground.phase }, { on := 20, ground := Ground.phase }], guard := none }) rfl (fun K hK => ?_)
              go_simp
              refine hK.out _ _ ?_
              refine NoPanic.normal ?_
              go_wp2
              go_ret
              have hm := H4.out
              rw [HE.out] at hm
              exact ⟨rfl, rend HPF.out HCC.out (HP.out _ hm.below).1 hm.below hm.own (fun a ha => Nat.le_trans HCC.out.size (hm.new a ha)) hpl⟩
          -- END6
        | some aa =>
          obtain ⟨bb, off, sb⟩ := aa
          obtain rfl : sb = none := (hoW.at_ _ rfl).1
          have HE := Lib.hid (show ((l2.take k).flatMap Wt.cells ++ (Wt.mk at_ a b).cells) ++ (l2.drop k).flatMap Wt.cells = (insL l2 ⟨at_, a, b⟩).flatMap Wt.cells by rw [HINS.out]; simp)
          clear hgk
          -- BEGIN7
          as_aux_lemma =>
            obtain ⟨y0, y2⟩ := cells1 hpW
            obtain ⟨x0, x1, x2⟩ := cells2 hTW
            have fd0 : W.drew.cell? ⟨p, 0, none⟩ = some (.slice (some ⟨bb, off, none⟩) n cap) := y0
            have fd1 : W.drew.cell? ⟨w.heap.size, 0, none⟩ = some (.int .u64 (a : Int)) := x0
            have fd2 : W.drew.cell? ⟨w.heap.size, 1, none⟩ = some (.int .u64 (b : Int)) := x1
            have fe0 : (W.alloc (.cells #[] 45)).cell? ⟨p, 0, none⟩ = some (.slice (some ⟨bb, off, none⟩) n cap) := alloc_cell y0
            have fe1 : (W.alloc (.cells #[] 45)).cell? ⟨w.heap.size, 0, none⟩ = some (.int .u64 (a : Int)) := alloc_cell x0
            have fe2 : (W.alloc (.cells #[] 45)).cell? ⟨w.heap.size, 1, none⟩ = some (.int .u64 (b : Int)) := alloc_cell x1
            have fb0 : (W.alloc (.cells #[.int .u64 (at_ : Int), .int .u64 (a : Int), .int .u64 (b : Int)] 45)).cell? ⟨p, 0, none⟩ = some (.slice (some ⟨bb, off, none⟩) n cap) := alloc_cell y0
            have fb1 : (W.alloc (.cells #[.int .u64 (at_ : Int), .int .u64 (a : Int), .int .u64 (b : Int)] 45)).cell? ⟨w.heap.size, 0, none⟩ = some (.int .u64 (a : Int)) := alloc_cell x0
            have fb2 : (W.alloc (.cells #[.int .u64 (at_ : Int), .int .u64 (a : Int), .int .u64 (b : Int)] 45)).cell? ⟨w.heap.size, 1, none⟩ = some (.int .u64 (b : Int)) := alloc_cell x1
            have feb0 : ((W.alloc (.cells #[] 45)).alloc (.cells #[.int .u64 (at_ : Int), .int .u64 (a : Int), .int .u64 (b : Int)] 45)).cell? ⟨p, 0, none⟩ = some (.slice (some ⟨bb, off, none⟩) n cap) := alloc_cell (alloc_cell y0)
            have feb1 : ((W.alloc (.cells #[] 45)).alloc (.cells #[.int .u64 (at_ : Int), .int .u64 (a : Int), .int .u64 (b : Int)] 45)).cell? ⟨w.heap.size, 0, none⟩ = some (.int .u64 (a : Int)) := alloc_cell (alloc_cell x0)
            have feb2 : ((W.alloc (.cells #[] 45)).alloc (.cells #[.int .u64 (at_ : Int), .int .u64 (a : Int), .int .u64 (b : Int)] 45)).cell? ⟨w.heap.size, 1, none⟩ = some (.int .u64 (b : Int)) := alloc_cell (alloc_cell x1)
            have fbe0 : ((W.alloc (.cells #[.int .u64 (at_ : Int), .int .u64 (a : Int), .int .u64 (b : Int)] 45)).alloc (.cells #[] 45)).cell? ⟨p, 0, none⟩ = some (.slice (some ⟨bb, off, none⟩) n cap) := alloc_cell (alloc_cell y0)
            have fbe1 : ((W.alloc (.cells #[.int .u64 (at_ : Int), .int .u64 (a : Int), .int .u64 (b : Int)] 45)).alloc (.cells #[] 45)).cell? ⟨w.heap.size, 0, none⟩ = some (.int .u64 (a : Int)) := alloc_cell (alloc_cell x0)
            have fbe2 : ((W.alloc (.cells #[.int .u64 (at_ : Int), .int .u64 (a : Int), .int .u64 (b : Int)] 45)).alloc (.cells #[] 45)).cell? ⟨w.heap.size, 1, none⟩ = some (.int .u64 (b : Int)) := alloc_cell (alloc_cell x1)
            have HR1 := Lib.hid (show Row W (some ⟨bb, off, none⟩) ((l2.take k).flatMap Wt.cells) by rw [← fl_take el_e]; exact hoW.row.take _)
            obtain ⟨A, hA⟩ : ∃ A : Option Addr, (if cap = k then some (⟨bb, off, none⟩ : Addr) else some ⟨bb, off + k * 3, none⟩) = A := ⟨_, rfl⟩
            have HR3 := Lib.hid (show Row W A _ by rw [← hA]; exact fl_row el_e hoW HN.out k)
            have HL := Lib.hid (And.intro (show ((l2.take k).flatMap Wt.cells).length = k * 3 by rw [fl_len el_e, List.length_take]; have := HN.out; congr 1; omega) (show ((l2.drop k).flatMap Wt.cells).length = (n - k) * 3 by rw [fl_len el_e, List.length_drop, HN.out]))
            have hic : k ≤ cap := by omega
            have hic' : (k : Int) ≤ (cap : Int) := by omega
            have hic2 : (k : Int) ≤ (n : Int) := by omega
            have hic0 : (0 : Int) ≤ (k : Int) := by omega
            have hp3 : (n : Int) ≤ (cap : Int) := by omega
            have HZ := Lib.hid (show 0 + k ≤ maxLen ∧ (0 + k) * 24 ≤ 140737488355328 ∧ k + 1 ≤ maxLen ∧ (k + 1) * 24 ≤ 140737488355328 ∧ (k + 1) + (n - k) ≤ maxLen ∧ ((k + 1) + (n - k)) * 24 ≤ 140737488355328 from ⟨by unfold maxLen; omega, by omega, by unfold maxLen; omega, by omega, by unfold maxLen; omega, by omega⟩)
            have HO1 := Lib.hid (fl_one el_e (l2.take k))
            have HO3 := Lib.hid (fl_one el_e (l2.drop k))
            have HLN := Lib.hid (And.intro (show (Wt.mk at_ a b).cells.length = 1 * 3 from rfl) (el_e.one ⟨at_, a, b⟩))
            have HW1 := Lib.hid (fun (A B : Obj) => And.intro (HR1.out.below ((Below.refl _ W).alloc (Nat.le_refl _) A)) (HR1.out.below (((Below.refl _ W).alloc (Nat.le_refl _) A).alloc ((Below.refl _ W).alloc (Nat.le_refl _) A).size B)))
            have HP := Lib.hid (fun (w2 : World) (hb : Below W.heap.size W w2) => And.intro ((Chg.of_below hb (fun _ => False)).heap hpW (fun h => h)) ((Chg.of_below hb (fun _ => False)).heap hTW (fun h => h)))
            have HOA := Lib.hid (And.intro (Own.alloc0 W 3 45 (0, 0)).drew (And.intro (fun BV : Obj => ((Own.alloc0 W 3 45 (0, 0)).keep ((Chg.refl (fun _ => False) _).alloc BV) (fun _ _ h => h)).drew) (fun BV : Obj => by have q := (Own.alloc0 (W.alloc BV) 3 45 (0, 0)).drew; rw [size_alloc] at q; exact q)))
            clear hpW hTW hoW y0 y2 x0 x1 x2
            have hSd := And.intro fd0 (And.intro fd1 fd2)
            have hSe := And.intro fe0 (And.intro fe1 fe2)
            have hSb := And.intro fb0 (And.intro fb1 fb2)
            have hSeb := And.intro feb0 (And.intro feb1 feb2)
            have hSbe := And.intro fbe0 (And.intro fbe1 fbe2)
            go_upto_region 11 with fail
            refine wp_region_noPanic ?_
            refine wp_region_last (n := 23) (m := 23) (S := fun wx => wx.cell? ⟨p, 0, none⟩ = some (.slice (some ⟨bb, off, none⟩) n cap) ∧ wx.cell? ⟨w.heap.size, 0, none⟩ = some (.int .u64 (a : Int)) ∧ wx.cell? ⟨w.heap.size, 1, none⟩ = some (.int .u64 (b : Int))) (by kernel_rfl) rfl rfl (by kernel_rfl) hSd (fun hHeld => ?_)
            refine wpAnyH_take (i := 0) (oi := { dst := some 74, op := Op.move (Operand.tmp 0), type := 26, pos := "ref.go:391", after := #[], guard := none }) (v := ?v2900) rfl (by kernel_rfl) (by kernel_rfl) (by kernel_rfl) (fun _ _ _ h => h) (Or.inl ⟨by rfl, ?hy2900⟩) (by assumption) ?rest2900
            case hy2900 => (intro w hSw; (try dsimp only at hSw); (try obtain ⟨hSw, hSw1, hSw2⟩ := hSw); go_simp; all_goals (with_reducible rfl))
            (try simp only [Act.put, List.setIfInBounds_toArray, List.set_cons_zero, List.set_cons_succ])
            refine wpAnyH_take (i := 2) (oi := { dst := some 76, op := Op.move (Operand.tmp 0), type := 26, pos := "ref.go:391", after := #[], guard := none }) (v := ?v3002) rfl (by kernel_rfl) (by kernel_rfl) (by kernel_rfl) (fun _ _ _ h => h) (Or.inl ⟨by rfl, ?hy3002⟩) (by assumption) ?rest3002
            case hy3002 => (intro w hSw; (try dsimp only at hSw); (try obtain ⟨hSw, hSw1, hSw2⟩ := hSw); go_simp; all_goals (with_reducible rfl))
            (try simp only [Act.put, List.setIfInBounds_toArray, List.set_cons_zero, List.set_cons_succ])
            refine wpAnyH_take (i := 3) (oi := { dst := some 77, op := Op.nilCheck (Operand.tmp 76), type := 0, pos := "ref.go:391", after := #[{ on := 2, ground := Ground.data }], guard := none }) (v := ?v3103) rfl (by kernel_rfl) (by kernel_rfl) (by kernel_rfl) (fun _ _ _ h => h) (Or.inl ⟨by rfl, ?hy3103⟩) (by assumption) ?rest3103
            case hy3103 => (intro w hSw; (try dsimp only at hSw); (try obtain ⟨hSw, hSw1, hSw2⟩ := hSw); go_simp; all_goals (with_reducible rfl))
            (try simp only [Act.put, List.setIfInBounds_toArray, List.set_cons_zero, List.set_cons_succ])
            refine wpAnyH_take (i := 4) (oi := { dst := some 78, op := Op.fieldAddr 29 (Operand.tmp 77) 0, type := 0, pos := "ref.go:391", after := #[{ on := 3, ground := Ground.data }], guard := none }) (v := ?v3204) rfl (by kernel_rfl) (by kernel_rfl) (by kernel_rfl) (fun _ _ _ h => h) (Or.inl ⟨by rfl, ?hy3204⟩) (by assumption) ?rest3204
            case hy3204 => (intro w hSw; (try dsimp only at hSw); (try obtain ⟨hSw, hSw1, hSw2⟩ := hSw); go_simp; all_goals (with_reducible rfl))
            (try simp only [Act.put, List.setIfInBounds_toArray, List.set_cons_zero, List.set_cons_succ])
            refine wpAnyH_take (i := 5) (oi := { dst := some 79, op := Op.load 27 (Operand.tmp 78), type := 27, pos := "ref.go:391", after := #[{ on := 4, ground := Ground.data }], guard := none }) (v := ?v3305) rfl (by kernel_rfl) (by kernel_rfl) (by kernel_rfl) (fun _ _ _ h => h) (Or.inl ⟨by rfl, ?hy3305⟩) (by assumption) ?rest3305
            case hy3305 => (intro w hSw; (try dsimp only at hSw); (try obtain ⟨hSw, hSw1, hSw2⟩ := hSw); go_simp; all_goals (with_reducible rfl))
            (try simp only [Act.put, List.setIfInBounds_toArray, List.set_cons_zero, List.set_cons_succ])
            refine wpAnyH_take (i := 6) (oi := { dst := some 80, op := Op.move (Operand.tmp 8), type := 3, pos := "ref.go:391", after := #[], guard := none }) (v := ?v3406) rfl (by kernel_rfl) (by kernel_rfl) (by kernel_rfl) (fun _ _ _ h => h) (Or.inl ⟨by rfl, ?hy3406⟩) (by assumption) ?rest3406
            case hy3406 => (intro w hSw; (try dsimp only at hSw); (try obtain ⟨hSw, hSw1, hSw2⟩ := hSw); go_simp; all_goals (with_reducible rfl))
            (try simp only [Act.put, List.setIfInBounds_toArray, List.set_cons_zero, List.set_cons_succ])
            refine wpAnyH_take (i := 7) (oi := { dst := some 81, op := Op.slice 27 (Operand.tmp 79) none (some (Operand.tmp 80)) none, type := 27, pos := "ref.go:391", after := #[{ on := 5, ground := Ground.data }, { on := 6, ground := Ground.data }], guard := none }) (v := ?v3507) rfl (by kernel_rfl) (by kernel_rfl) (by kernel_rfl) (fun _ _ _ h => h) (Or.inl ⟨by rfl, ?hy3507⟩) (by assumption) ?rest3507
            case hy3507 => (intro w hSw; (try dsimp only at hSw); (try obtain ⟨hSw, hSw1, hSw2⟩ := hSw); go_simp; all_goals (with_reducible rfl))
            (try simp only [Act.put, List.setIfInBounds_toArray, List.set_cons_zero, List.set_cons_succ])
            refine wpAnyH_take (i := 9) (oi := { dst := some 83, op := Op.move (Operand.tmp 2), type := 30, pos := "ref.go:391", after := #[], guard := none }) (v := ?v3609) rfl (by kernel_rfl) (by kernel_rfl) (by kernel_rfl) (fun _ _ _ h => h) (Or.inl ⟨by rfl, ?hy3609⟩) (by assumption) ?rest3609
            case hy3609 => (intro w hSw; (try dsimp only at hSw); (try obtain ⟨hSw, hSw1, hSw2⟩ := hSw); go_simp; all_goals (with_reducible rfl))
            (try simp only [Act.put, List.setIfInBounds_toArray, List.set_cons_zero, List.set_cons_succ])
            refine wpAnyH_take (i := 10) (oi := { dst := some 84, op := Op.load 32 (Operand.tmp 4), type := 32, pos := "ref.go:391", after := #[], guard := none }) (v := ?v3710) rfl (by kernel_rfl) (by kernel_rfl) (by kernel_rfl) (fun _ _ _ h => h) (Or.inl ⟨by rfl, ?hy3710⟩) (by assumption) ?rest3710
            case hy3710 => (intro w hSw; (try dsimp only at hSw); (try obtain ⟨hSw, hSw1, hSw2⟩ := hSw); go_simp; all_goals (with_reducible rfl))
            (try simp only [Act.put, List.setIfInBounds_toArray, List.set_cons_zero, List.set_cons_succ])
            refine wpAnyH_take (i := 11) (oi := { dst := some 85, op := Op.build 45 #[(0, Operand.tmp 83), (1, Operand.tmp 84)], type := 45, pos := "ref.go:391", after := #[{ on := 9, ground := Ground.data }, { on := 10, ground := Ground.data }], guard := none }) (v := ?v3811) rfl (by kernel_rfl) (by kernel_rfl) (by kernel_rfl) (fun _ _ _ h => h) (Or.inl ⟨by rfl, ?hy3811⟩) (by assumption) ?rest3811
            case hy3811 => (intro w hSw; (try dsimp only at hSw); (try obtain ⟨hSw, hSw1, hSw2⟩ := hSw); go_simp; all_goals (with_reducible rfl))
            (try simp only [Act.put, List.setIfInBounds_toArray, List.set_cons_zero, List.set_cons_succ])
            refine wpAnyH_take (i := 14) (oi := { dst := some 88, op := Op.move (Operand.tmp 0), type := 26, pos := "ref.go:391", after := #[], guard := none }) (v := ?v3914) rfl (by kernel_rfl) (by kernel_rfl) (by kernel_rfl) (fun _ _ _ h => h) (Or.inl ⟨by rfl, ?hy3914⟩) (by assumption) ?rest3914
            case hy3914 => (intro w hSw; (try dsimp only at hSw); (try obtain ⟨hSw, hSw1, hSw2⟩ := hSw); go_simp; all_goals (with_reducible rfl))
            (try simp only [Act.put, List.setIfInBounds_toArray, List.set_cons_zero, List.set_cons_succ])
            refine wpAnyH_take (i := 15) (oi := { dst := some 89, op := Op.nilCheck (Operand.tmp 88), type := 0, pos := "ref.go:391", after := #[{ on := 14, ground := Ground.data }], guard := none }) (v := ?v4015) rfl (by kernel_rfl) (by kernel_rfl) (by kernel_rfl) (fun _ _ _ h => h) (Or.inl ⟨by rfl, ?hy4015⟩) (by assumption) ?rest4015
            case hy4015 => (intro w hSw; (try dsimp only at hSw); (try obtain ⟨hSw, hSw1, hSw2⟩ := hSw); go_simp; all_goals (with_reducible rfl))
            (try simp only [Act.put, List.setIfInBounds_toArray, List.set_cons_zero, List.set_cons_succ])
            refine wpAnyH_take (i := 16) (oi := { dst := some 90, op := Op.fieldAddr 29 (Operand.tmp 89) 0, type := 0, pos := "ref.go:391", after := #[{ on := 15, ground := Ground.data }], guard := none }) (v := ?v4116) rfl (by kernel_rfl) (by kernel_rfl) (by kernel_rfl) (fun _ _ _ h => h) (Or.inl ⟨by rfl, ?hy4116⟩) (by assumption) ?rest4116
            case hy4116 => (intro w hSw; (try dsimp only at hSw); (try obtain ⟨hSw, hSw1, hSw2⟩ := hSw); go_simp; all_goals (with_reducible rfl))
            (try simp only [Act.put, List.setIfInBounds_toArray, List.set_cons_zero, List.set_cons_succ])
            refine wpAnyH_take (i := 17) (oi := { dst := some 91, op := Op.load 27 (Operand.tmp 90), type := 27, pos := "ref.go:391", after := #[{ on := 16, ground := Ground.data }], guard := none }) (v := ?v4217) rfl (by kernel_rfl) (by kernel_rfl) (by kernel_rfl) (fun _ _ _ h => h) (Or.inl ⟨by rfl, ?hy4217⟩) (by assumption) ?rest4217
            case hy4217 => (intro w hSw; (try dsimp only at hSw); (try obtain ⟨hSw, hSw1, hSw2⟩ := hSw); go_simp; all_goals (with_reducible rfl))
            (try simp only [Act.put, List.setIfInBounds_toArray, List.set_cons_zero, List.set_cons_succ])
            refine wpAnyH_take (i := 18) (oi := { dst := some 92, op := Op.move (Operand.tmp 8), type := 3, pos := "ref.go:391", after := #[], guard := none }) (v := ?v4318) rfl (by kernel_rfl) (by kernel_rfl) (by kernel_rfl) (fun _ _ _ h => h) (Or.inl ⟨by rfl, ?hy4318⟩) (by assumption) ?rest4318
            case hy4318 => (intro w hSw; (try dsimp only at hSw); (try obtain ⟨hSw, hSw1, hSw2⟩ := hSw); go_simp; all_goals (with_reducible rfl))
            (try simp only [Act.put, List.setIfInBounds_toArray, List.set_cons_zero, List.set_cons_succ])
            refine wpAnyH_take (i := 19) (oi := { dst := some 93, op := Op.slice 27 (Operand.tmp 91) (some (Operand.tmp 92)) none none, type := 27, pos := "ref.go:391", after := #[{ on := 17, ground := Ground.data }, { on := 18, ground := Ground.data }], guard := none }) (v := ?v4419) rfl (by kernel_rfl) (by kernel_rfl) (by kernel_rfl) (fun _ _ _ h => h) (Or.inl ⟨by rfl, ?hy4419⟩) (by assumption) ?rest4419
            case hy4419 => (intro w hSw; (try dsimp only at hSw); (try obtain ⟨hSw, hSw1, hSw2⟩ := hSw); go_simp; all_goals (with_reducible rfl))
            (try simp only [Act.put, List.setIfInBounds_toArray, List.set_cons_zero, List.set_cons_succ])
            refine wpAnyH_ready (rs := [1, 12]) (by kernel_rfl) (by simp) ?_
            refine AllReadyH.cons (o := { dst := some 75, op := Op.buildSlice 27 0 #[], type := 27, pos := "ref.go:391", after := #[], guard := none }) rfl (fun K hK => ?_) (AllReadyH.cons (o := { dst := some 86, op := Op.buildSlice 27 1 #[(0, Operand.tmp 85)], type := 27, pos := "ref.go:391", after := #[{ on := 11, ground := Ground.data }], guard := none }) rfl (fun K hK => ?_) AllReadyH.nil)
            · go_simp
              refine hK.out _ _ (hSe) (fun hHeld => ?_)
              clear hK K
              (try simp only [Act.put, List.setIfInBounds_toArray, List.set_cons_zero, List.set_cons_succ])
              refine wpAnyH_ready (rs := [8, 12]) (by kernel_rfl) (by simp) ?_
              refine AllReadyH.cons (o := { dst := some 82, op := Op.call { callee := Callee.builtin Builtin.append, args := #[Operand.tmp 75, Operand.tmp 81], argTypes := #[27, 27] }, type := 27, pos := "ref.go:391", after := #[{ on := 1, ground := Ground.data }, { on := 7, ground := Ground.data }], guard := none }) rfl (fun K hK => ?_) (AllReadyH.cons (o := { dst := some 86, op := Op.buildSlice 27 1 #[(0, Operand.tmp 85)], type := 27, pos := "ref.go:391", after := #[{ on := 11, ground := Ground.data }], guard := none }) rfl (fun K hK => ?_) AllReadyH.nil)
              · refine step_append' rfl (.tmp 75) (.tmp 81) el_s rfl (c := cap) ?hs ?hx HOA.out.1 HL.out.1 (HW1.out _ (.cells #[] 0)).1.drew HO1.out HZ.out.1 HZ.out.2.1 ?_
                (case hs => simp [Act.eval, Act.put])
                (case hx => simp [Act.eval, Act.put])
                intro xo xc w2 hx hch _ hx2
                simp only [Nat.zero_add]
                have hm := wmid_a hx hch hx2
                obtain ⟨v0, v2⟩ := cells1 (HP.out _ hm.below).1
                obtain ⟨v3, v4, v5⟩ := cells2 (HP.out _ hm.below).2
                have vv0 := alloc_cell (o := (.cells #[.int .u64 (at_ : Int), .int .u64 (a : Int), .int .u64 (b : Int)] 45)) v0
                have hS2 := And.intro v3 v4
                have hS3 := And.intro (alloc_cell (o := (.cells #[.int .u64 (at_ : Int), .int .u64 (a : Int), .int .u64 (b : Int)] 45)) v3) (alloc_cell (o := (.cells #[.int .u64 (at_ : Int), .int .u64 (a : Int), .int .u64 (b : Int)] 45)) v4)
                have hSx := And.intro v0 (And.intro v3 v4)
                have hSy := And.intro vv0 (And.intro (alloc_cell (o := (.cells #[.int .u64 (at_ : Int), .int .u64 (a : Int), .int .u64 (b : Int)] 45)) v3) (alloc_cell (o := (.cells #[.int .u64 (at_ : Int), .int .u64 (a : Int), .int .u64 (b : Int)] 45)) v4))
                have H2 := Lib.hid (And.intro (hm.below.alloc hm.below.size (.cells #[.int .u64 (at_ : Int), .int .u64 (a : Int), .int .u64 (b : Int)] 45)) (And.intro hm.new (And.intro (hm.own.keep ((Chg.refl (fun _ => False) w2).alloc (.cells #[.int .u64 (at_ : Int), .int .u64 (a : Int), .int .u64 (b : Int)] 45)) (fun _ _ h => h)) (Row.alloc w2 #[.int .u64 (at_ : Int), .int .u64 (a : Int), .int .u64 (b : Int)] 45 (0, 0)))))
                clear hx hch hx2 hm
                refine hK.out _ _ (hSx) (fun hHeld => ?_)
                clear hK K
                (try simp only [Act.put, List.setIfInBounds_toArray, List.set_cons_zero, List.set_cons_succ])
                refine wpAnyH_ready (rs := [12]) (by kernel_rfl) (by simp) ?_
                refine AllReadyH.cons (o := { dst := some 86, op := Op.buildSlice 27 1 #[(0, Operand.tmp 85)], type := 27, pos := "ref.go:391", after := #[{ on := 11, ground := Ground.data }], guard := none }) rfl (fun K hK => ?_) AllReadyH.nil
                go_simp
                refine hK.out _ _ (hSy) (fun hHeld => ?_)
                clear hK K
                (try simp only [Act.put, List.setIfInBounds_toArray, List.set_cons_zero, List.set_cons_succ])
                refine wpAnyH_ready (rs := [13]) (by kernel_rfl) (by simp) ?_
                refine AllReadyH.cons (o := { dst := some 87, op := Op.call { callee := Callee.builtin Builtin.append, args := #[Operand.tmp 82, Operand.tmp 86], argTypes := #[27, 27] }, type := 27, pos := "ref.go:391", after := #[{ on := 8, ground := Ground.data }, { on := 12, ground := Ground.data }, { on := 8, ground := Ground.chain }], guard := none }) rfl (fun K hK => ?_) AllReadyH.nil
                refine step_append' rfl (.tmp 82) (.tmp 86) el_s rfl (c := 1) ?hs ?hx H2.out.2.2.1 HLN.out.1 H2.out.2.2.2 HLN.out.2 HZ.out.2.2.1 HZ.out.2.2.2.1 ?_
                (case hs => simp [Act.eval, Act.put])
                (case hx => simp [Act.eval, Act.put])
                intro yo yc w3 hx hch _ hx2
                have hm := wmid_next H2.out.1 H2.out.2.1 hx hch hx2
                obtain ⟨q0, q2⟩ := cells1 (HP.out _ hm.below).1
                obtain ⟨q3, q4, _⟩ := cells2 (HP.out _ hm.below).2
                have hS3 := And.intro q3 q4
                have H3 := Lib.hid hm
                clear hx hch hx2 hm
                refine hK.out _ _ (And.intro ((cells1 (HP.out _ H3.out.below).1).1) (And.intro ((cells2 (HP.out _ H3.out.below).2).1) ((cells2 (HP.out _ H3.out.below).2).2.1))) (fun hHeld => ?_)
                clear hK K
                (try simp only [Act.put, List.setIfInBounds_toArray, List.set_cons_zero, List.set_cons_succ])
                refine wpAnyH_ready (rs := [20]) (by kernel_rfl) (by simp) ?_
                refine AllReadyH.cons (o := { dst := some 94, op := Op.call { callee := Callee.builtin Builtin.append, args := #[Operand.tmp 87, Operand.tmp 93], argTypes := #[27, 27] }, type := 27, pos := "ref.go:391", after := #[{ on := 13, ground := Ground.data }, { on := 19, ground := Ground.data }, { on := 13, ground := Ground.chain }], guard := none }) rfl (fun K hK => ?_) AllReadyH.nil
                refine step_append' rfl (.tmp 87) (.tmp 93) el_s rfl (c := cap - k) ?hs ?hx H3.out.own HL.out.2 (HR3.out.below H3.out.below) HO3.out HZ.out.2.2.2.2.1 HZ.out.2.2.2.2.2 ?_
                (case hs => simp [Act.eval, Act.put])
                (case hx => simp [Act.eval, Act.put])
                intro uo uc w4 hx hch _ hx2
                have hm := wmid_next H3.out.below H3.out.new hx hch hx2
                obtain ⟨s0, s2⟩ := cells1 (HP.out _ hm.below).1
                have hu := fun v => cells2 ((Chg.one w4 p 0 v).heap (HP.out _ hm.below).2 (fun e => absurd (e : w.heap.size = p) (Nat.ne_of_gt hpl)))
                obtain ⟨u3, u4, _⟩ := cells2 (HP.out _ hm.below).2
                have hS4 := And.intro u3 u4
                have hS5 := fun v => And.intro (hu v).1 (hu v).2.1
                clear hu
                have H4 := Lib.hid hm
                clear hx hch hx2 hm
                refine hK.out _ _ (And.intro ((cells1 (HP.out _ H4.out.below).1).1) (And.intro ((cells2 (HP.out _ H4.out.below).2).1) ((cells2 (HP.out _ H4.out.below).2).2.1))) (fun hHeld => ?_)
                clear hK K
                (try simp only [Act.put, List.setIfInBounds_toArray, List.set_cons_zero, List.set_cons_succ])
                refine wpAnyH_take (i := 21) (oi := { dst := some 95, op := Op.nilCheck (Operand.tmp 74), type := 0, pos := "ref.go:391", after := #[{ on := 0, ground := Ground.data }, { on := 0, ground := Ground.phase }, { on := 1, ground := Ground.phase }, { on := 2, ground := Ground.phase }, { on := 3, ground := Ground.phase }, { on := 4, ground := Ground.phase }, { on := 5, ground := Ground.phase }, { on := 6, ground := Ground.phase }, { on := 7, ground := Ground.phase }, { on := 8, ground := Ground.phase }, { on := 9, ground := Ground.phase }, { on := 10, ground := Ground.phase }, { on := 11, ground := Ground.phase }, { on := 12, ground := Ground.phase }, { on := 13, ground := Ground.phase }, { on := 14, ground := Ground.phase }, { on := 15, ground := Ground.phase }, { on := 16, ground := Ground.phase }, { on := 17, ground := Ground.phase }, { on := 18, ground := Ground.phase }, { on := 19, ground := Ground.phase }, { on := 20, ground := Ground.phase }], guard := none }) (v := ?v2321) rfl (by kernel_rfl) (by kernel_rfl) (by kernel_rfl) (fun _ _ _ h => h) (Or.inl ⟨by rfl, ?hy2321⟩) (by assumption) ?rest2321
                case hy2321 => (intro w hSw; (try dsimp only at hSw); (try obtain ⟨hSw, hSw1, hSw2⟩ := hSw); go_simp; all_goals (with_reducible rfl))
                (try simp only [Act.put, List.setIfInBounds_toArray, List.set_cons_zero, List.set_cons_succ])
                refine wpAnyH_take (i := 22) (oi := { dst := some 96, op := Op.fieldAddr 29 (Operand.tmp 95) 0, type := 0, pos := "ref.go:391", after := #[{ on := 21, ground := Ground.data }, { on := 0, ground := Ground.phase }, { on := 1, ground := Ground.phase }, { on := 2, ground := Ground.phase }, { on := 3, ground := Ground.phase }, { on := 4, ground := Ground.phase }, { on := 5, ground := Ground.phase }, { on := 6, ground := Ground.phase }, { on := 7, ground := Ground.phase }, { on := 8, ground := Ground.phase }, { on := 9, ground := Ground.phase }, { on := 10, ground := Ground.phase }, { on := 11, ground := Ground.phase }, { on := 12, ground := Ground.phase }, { on := 13, ground := Ground.phase }, { on := 14, ground := Ground.phase }, { on := 15, ground := Ground.phase }, { on := 16, ground := Ground.phase }, { on := 17, ground := Ground.phase }, { on := 18, ground := Ground.phase }, { on := 19, ground := Ground.phase }, { on := 20, ground := Ground.phase }], guard := none }) (v := ?v2422) rfl (by kernel_rfl) (by kernel_rfl) (by kernel_rfl) (fun _ _ _ h => h) (Or.inl ⟨by rfl, ?hy2422⟩) (by assumption) ?rest2422
                case hy2422 => (intro w hSw; (try dsimp only at hSw); (try obtain ⟨hSw, hSw1, hSw2⟩ := hSw); go_simp; all_goals (with_reducible rfl))
                (try simp only [Act.put, List.setIfInBounds_toArray, List.set_cons_zero, List.set_cons_succ])
                refine wpAnyH_done (by kernel_rfl) ?_ _
                refine last_do (o := { dst := none, op := Op.store 27 (Operand.tmp 96) (Operand.tmp 94), type := 0, pos := "ref.go:391", after := #[{ on := 22, ground := Ground.data }, { on := 20, ground := Ground.data }, { on := 20, ground := Ground.chain }, { on := 0, ground := Ground.phase }, { on := 1, ground := Ground.phase }, { on := 2, ground := Ground.phase }, { on := 3, ground := Ground.phase }, { on := 4, ground := Ground.phase }, { on := 5, ground := Ground.phase }, { on := 6, ground := Ground.phase }, { on := 7, ground := Ground.phase }, { on := 8, ground := Ground.phase }, { on := 9, ground := Ground.phase }, { on := 10, ground := Ground.phase }, { on := 11, ground := Ground.phase }, { on := 12, ground := Ground.phase }, { on := 13, ground := Ground.phase }, { on := 14, ground := Ground.phase }, { on := 15, ground := Ground.phase }, { on := 16, ground := Ground.phase }, { on := 17, ground := Ground.phase }, { on := 18, ground := Ground.phase }, { on := 19, ground := Ground.phase }, { on := 20, ground := Ground.phase }], guard := none }) rfl (fun K hK => ?_)
                go_simp
                refine hK.out _ _ ?_
                refine NoPanic.normal ?_
                go_wp2
                go_ret
                have hm := H4.out
                rw [HE.out] at hm
                exact ⟨rfl, rend HPF.out HCC.out (HP.out _ hm.below).1 hm.below hm.own (fun a ha => Nat.le_trans HCC.out.size (hm.new a ha)) hpl⟩
              · go_simp
                refine hK.out _ _ (hSeb) (fun hHeld => ?_)
                clear hK K
                (try simp only [Act.put, List.setIfInBounds_toArray, List.set_cons_zero, List.set_cons_succ])
                refine wpAnyH_ready (rs := [8]) (by kernel_rfl) (by simp) ?_
                refine AllReadyH.cons (o := { dst := some 82, op := Op.call { callee := Callee.builtin Builtin.append, args := #[Operand.tmp 75, Operand.tmp 81], argTypes := #[27, 27] }, type := 27, pos := "ref.go:391", after := #[{ on := 1, ground := Ground.data }, { on := 7, ground := Ground.data }], guard := none }) rfl (fun K hK => ?_) AllReadyH.nil
                refine step_append' rfl (.tmp 75) (.tmp 81) el_s rfl (c := cap) ?hs ?hx (HOA.out.2.1 _) HL.out.1 (HW1.out _ _).2.drew HO1.out HZ.out.1 HZ.out.2.1 ?_
                (case hs => simp [Act.eval, Act.put])
                (case hx => simp [Act.eval, Act.put])
                intro xo xc w2 hx hch _ hx2
                simp only [Nat.zero_add]
                have hm := wmid_b hx hch hx2
                obtain ⟨v0, v2⟩ := cells1 (HP.out _ hm.1.below).1
                obtain ⟨v3, v4, v5⟩ := cells2 (HP.out _ hm.1.below).2
                have hS2 := And.intro v3 v4
                have H2 := Lib.hid (And.intro hm.1.below (And.intro hm.1.new (And.intro hm.1.own hm.2)))
                clear hx hch hx2 hm
                refine hK.out _ _ (And.intro ((cells1 (HP.out _ H2.out.1).1).1) (And.intro ((cells2 (HP.out _ H2.out.1).2).1) ((cells2 (HP.out _ H2.out.1).2).2.1))) (fun hHeld => ?_)
                clear hK K
                (try simp only [Act.put, List.setIfInBounds_toArray, List.set_cons_zero, List.set_cons_succ])
                refine wpAnyH_ready (rs := [13]) (by kernel_rfl) (by simp) ?_
                refine AllReadyH.cons (o := { dst := some 87, op := Op.call { callee := Callee.builtin Builtin.append, args := #[Operand.tmp 82, Operand.tmp 86], argTypes := #[27, 27] }, type := 27, pos := "ref.go:391", after := #[{ on := 8, ground := Ground.data }, { on := 12, ground := Ground.data }, { on := 8, ground := Ground.chain }], guard := none }) rfl (fun K hK => ?_) AllReadyH.nil
                refine step_append' rfl (.tmp 82) (.tmp 86) el_s rfl (c := 1) ?hs ?hx H2.out.2.2.1 HLN.out.1 H2.out.2.2.2 HLN.out.2 HZ.out.2.2.1 HZ.out.2.2.2.1 ?_
                (case hs => simp [Act.eval, Act.put])
                (case hx => simp [Act.eval, Act.put])
                intro yo yc w3 hx hch _ hx2
                have hm := wmid_next H2.out.1 H2.out.2.1 hx hch hx2
                obtain ⟨q0, q2⟩ := cells1 (HP.out _ hm.below).1
                obtain ⟨q3, q4, _⟩ := cells2 (HP.out _ hm.below).2
                have hS3 := And.intro q3 q4
                have H3 := Lib.hid hm
                clear hx hch hx2 hm
                refine hK.out _ _ (And.intro ((cells1 (HP.out _ H3.out.below).1).1) (And.intro ((cells2 (HP.out _ H3.out.below).2).1) ((cells2 (HP.out _ H3.out.below).2).2.1))) (fun hHeld => ?_)
                clear hK K
                (try simp only [Act.put, List.setIfInBounds_toArray, List.set_cons_zero, List.set_cons_succ])
                refine wpAnyH_ready (rs := [20]) (by kernel_rfl) (by simp) ?_
                refine AllReadyH.cons (o := { dst := some 94, op := Op.call { callee := Callee.builtin Builtin.append, args := #[Operand.tmp 87, Operand.tmp 93], argTypes := #[27, 27] }, type := 27, pos := "ref.go:391", after := #[{ on := 13, ground := Ground.data }, { on := 19, ground := Ground.data }, { on := 13, ground := Ground.chain }], guard := none }) rfl (fun K hK => ?_) AllReadyH.nil
                refine step_append' rfl (.tmp 87) (.tmp 93) el_s rfl (c := cap - k) ?hs ?hx H3.out.own HL.out.2 (HR3.out.below H3.out.below) HO3.out HZ.out.2.2.2.2.1 HZ.out.2.2.2.2.2 ?_
                (case hs => simp [Act.eval, Act.put])
                (case hx => simp [Act.eval, Act.put])
                intro uo uc w4 hx hch _ hx2
                have hm := wmid_next H3.out.below H3.out.new hx hch hx2
                obtain ⟨s0, s2⟩ := cells1 (HP.out _ hm.below).1
                have hu := fun v => cells2 ((Chg.one w4 p 0 v).heap (HP.out _ hm.below).2 (fun e => absurd (e : w.heap.size = p) (Nat.ne_of_gt hpl)))
                obtain ⟨u3, u4, _⟩ := cells2 (HP.out _ hm.below).2
                have hS4 := And.intro u3 u4
                have hS5 := fun v => And.intro (hu v).1 (hu v).2.1
                clear hu
                have H4 := Lib.hid hm
                clear hx hch hx2 hm
                refine hK.out _ _ (And.intro ((cells1 (HP.out _ H4.out.below).1).1) (And.intro ((cells2 (HP.out _ H4.out.below).2).1) ((cells2 (HP.out _ H4.out.below).2).2.1))) (fun hHeld => ?_)
                clear hK K
                (try simp only [Act.put, List.setIfInBounds_toArray, List.set_cons_zero, List.set_cons_succ])
                refine wpAnyH_take (i := 21) (oi := { dst := some 95, op := Op.nilCheck (Operand.tmp 74), type := 0, pos := "ref.go:391", after := #[{ on := 0, ground := Ground.data }, { on := 0, ground := Ground.phase }, { on := 1, ground := Ground.phase }, { on := 2, ground := Ground.phase }, { on := 3, ground := Ground.phase }, { on := 4, ground := Ground.phase }, { on := 5, ground := Ground.phase }, { on := 6, ground := Ground.phase }, { on := 7, ground := Ground.phase }, { on := 8, ground := Ground.phase }, { on := 9, ground := Ground.phase }, { on := 10, ground := Ground.phase }, { on := 11, ground := Ground.phase }, { on := 12, ground := Ground.phase }, { on := 13, ground := Ground.phase }, { on := 14, ground := Ground.phase }, { on := 15, ground := Ground.phase }, { on := 16, ground := Ground.phase }, { on := 17, ground := Ground.phase }, { on := 18, ground := Ground.phase }, { on := 19, ground := Ground.phase }, { on := 20, ground := Ground.phase }], guard := none }) (v := ?v2521) rfl (by kernel_rfl) (by kernel_rfl) (by kernel_rfl) (fun _ _ _ h => h) (Or.inl ⟨by rfl, ?hy2521⟩) (by assumption) ?rest2521
                case hy2521 => (intro w hSw; (try dsimp only at hSw); (try obtain ⟨hSw, hSw1, hSw2⟩ := hSw); go_simp; all_goals (with_reducible rfl))
                (try simp only [Act.put, List.setIfInBounds_toArray, List.set_cons_zero, List.set_cons_succ])
                refine wpAnyH_take (i := 22) (oi := { dst := some 96, op := Op.fieldAddr 29 (Operand.tmp 95) 0, type := 0, pos := "ref.go:391", after := #[{ on := 21, ground := Ground.data }, { on := 0, ground := Ground.phase }, { on := 1, ground := Ground.phase }, { on := 2, ground := Ground.phase }, { on := 3, ground := Ground.phase }, { on := 4, ground := Ground.phase }, { on := 5, ground := Ground.phase }, { on := 6, ground := Ground.phase }, { on := 7, ground := Ground.phase }, { on := 8, ground := Ground.phase }, { on := 9, ground := Ground.phase }, { on := 10, ground := Ground.phase }, { on := 11, ground := Ground.phase }, { on := 12, ground := Ground.phase }, { on := 13, ground := Ground.phase }, { on := 14, ground := Ground.phase }, { on := 15, ground := Ground.phase }, { on := 16, ground := Ground.phase }, { on := 17, ground := Ground.phase }, { on := 18, ground := Ground.phase }, { on := 19, ground := Ground.phase }, { on := 20, ground := Ground.phase }], guard := none }) (v := ?v2622) rfl (by kernel_rfl) (by kernel_rfl) (by kernel_rfl) (fun _ _ _ h => h) (Or.inl ⟨by rfl, ?hy2622⟩) (by assumption) ?rest2622
                case hy2622 => (intro w hSw; (try dsimp only at hSw); (try obtain ⟨hSw, hSw1, hSw2⟩ := hSw); go_simp; all_goals (with_reducible rfl))
                (try simp only [Act.put, List.setIfInBounds_toArray, List.set_cons_zero, List.set_cons_succ])
                refine wpAnyH_done (by kernel_rfl) ?_ _
                refine last_do (o := { dst := none, op := Op.store 27 (Operand.tmp 96) (Operand.tmp 94), type := 0, pos := "ref.go:391", after := #[{ on := 22, ground := Ground.data }, { on := 20, ground := Ground.data }, { on := 20, ground := Ground.chain }, { on := 0, ground := Ground.phase }, { on := 1, ground := Ground.phase }, { on := 2, ground := Ground.phase }, { on := 3, ground := Ground.phase }, { on := 4, ground := Ground.phase }, { on := 5, ground := Ground.phase }, { on := 6, ground := Ground.phase }, { on := 7, ground := Ground.phase }, { on := 8, ground := Ground.phase }, { on := 9, ground := Ground.phase }, { on := 10, ground := Ground.phase }, { on := 11, ground := Ground.phase }, { on := 12, ground := Ground.phase }, { on := 13, ground := Ground.phase }, { on := 14, ground := Ground.phase }, { on := 15, ground := Ground.phase }, { on := 16, ground := Ground.phase }, { on := 17, ground := Ground.phase }, { on := 18, ground := Ground.phase }, { on := 19, ground := Ground.phase }, { on := 20, ground := Ground.phase }], guard := none }) rfl (fun K hK => ?_)
                go_simp
                refine hK.out _ _ ?_
                refine NoPanic.normal ?_
                go_wp2
                go_ret
                have hm := H4.out
                rw [HE.out] at hm
                exact ⟨rfl, rend HPF.out HCC.out (HP.out _ hm.below).1 hm.below hm.own (fun a ha => Nat.le_trans HCC.out.size (hm.new a ha)) hpl⟩
            · go_simp
              refine hK.out _ _ (hSb) (fun hHeld => ?_)
              clear hK K
              (try simp only [Act.put, List.setIfInBounds_toArray, List.set_cons_zero, List.set_cons_succ])
              refine wpAnyH_ready (rs := [1]) (by kernel_rfl) (by simp) ?_
              refine AllReadyH.cons (o := { dst := some 75, op := Op.buildSlice 27 0 #[], type := 27, pos := "ref.go:391", after := #[], guard := none }) rfl (fun K hK => ?_) AllReadyH.nil
              go_simp
              refine hK.out _ _ (hSbe) (fun hHeld => ?_)
              clear hK K
              (try simp only [Act.put, List.setIfInBounds_toArray, List.set_cons_zero, List.set_cons_succ])
              refine wpAnyH_ready (rs := [8]) (by kernel_rfl) (by simp) ?_
              refine AllReadyH.cons (o := { dst := some 82, op := Op.call { callee := Callee.builtin Builtin.append, args := #[Operand.tmp 75, Operand.tmp 81], argTypes := #[27, 27] }, type := 27, pos := "ref.go:391", after := #[{ on := 1, ground := Ground.data }, { on := 7, ground := Ground.data }], guard := none }) rfl (fun K hK => ?_) AllReadyH.nil
              refine step_append' rfl (.tmp 75) (.tmp 81) el_s rfl (c := cap) ?hs ?hx (HOA.out.2.2 _) HL.out.1 (HW1.out _ _).2.drew HO1.out HZ.out.1 HZ.out.2.1 ?_
              (case hs => simp [Act.eval, Act.put])
              (case hx => simp [Act.eval, Act.put])
              intro xo xc w2 hx hch _ hx2
              simp only [Nat.zero_add]
              have hm := wmid_c hx hch hx2
              obtain ⟨v0, v2⟩ := cells1 (HP.out _ hm.1.below).1
              obtain ⟨v3, v4, v5⟩ := cells2 (HP.out _ hm.1.below).2
              have hS2 := And.intro v3 v4
              have H2 := Lib.hid (And.intro hm.1.below (And.intro hm.1.new (And.intro hm.1.own hm.2)))
              clear hx hch hx2 hm
              refine hK.out _ _ (And.intro ((cells1 (HP.out _ H2.out.1).1).1) (And.intro ((cells2 (HP.out _ H2.out.1).2).1) ((cells2 (HP.out _ H2.out.1).2).2.1))) (fun hHeld => ?_)
              clear hK K
              (try simp only [Act.put, List.setIfInBounds_toArray, List.set_cons_zero, List.set_cons_succ])
              refine wpAnyH_ready (rs := [13]) (by kernel_rfl) (by simp) ?_
              refine AllReadyH.cons (o := { dst := some 87, op := Op.call { callee := Callee.builtin Builtin.append, args := #[Operand.tmp 82, Operand.tmp 86], argTypes := #[27, 27] }, type := 27, pos := "ref.go:391", after := #[{ on := 8, ground := Ground.data }, { on := 12, ground := Ground.data }, { on := 8, ground := Ground.chain }], guard := none }) rfl (fun K hK => ?_) AllReadyH.nil
              refine step_append' rfl (.tmp 82) (.tmp 86) el_s rfl (c := 1) ?hs ?hx H2.out.2.2.1 HLN.out.1 H2.out.2.2.2 HLN.out.2 HZ.out.2.2.1 HZ.out.2.2.2.1 ?_
              (case hs => simp [Act.eval, Act.put])
              (case hx => simp [Act.eval, Act.put])
              intro yo yc w3 hx hch _ hx2
              have hm := wmid_next H2.out.1 H2.out.2.1 hx hch hx2
              obtain ⟨q0, q2⟩ := cells1 (HP.out _ hm.below).1
              obtain ⟨q3, q4, _⟩ := cells2 (HP.out _ hm.below).2
              have hS3 := And.intro q3 q4
              have H3 := Lib.hid hm
              clear hx hch hx2 hm
              refine hK.out _ _ (And.intro ((cells1 (HP.out _ H3.out.below).1).1) (And.intro ((cells2 (HP.out _ H3.out.below).2).1) ((cells2 (HP.out _ H3.out.below).2).2.1))) (fun hHeld => ?_)
              clear hK K
              (try simp only [Act.put, List.setIfInBounds_toArray, List.set_cons_zero, List.set_cons_succ])
              refine wpAnyH_ready (rs := [20]) (by kernel_rfl) (by simp) ?_
              refine AllReadyH.cons (o := { dst := some 94, op := Op.call { callee := Callee.builtin Builtin.append, args := #[Operand.tmp 87, Operand.tmp 93], argTypes := #[27, 27] }, type := 27, pos := "ref.go:391", after := #[{ on := 13, ground := Ground.data }, { on := 19, ground := Ground.data }, { on := 13, ground := Ground.chain }], guard := none }) rfl (fun K hK => ?_) AllReadyH.nil
              refine step_append' rfl (.tmp 87) (.tmp 93) el_s rfl (c := cap - k) ?hs ?hx H3.out.own HL.out.2 (HR3.out.below H3.out.below) HO3.out HZ.out.2.2.2.2.1 HZ.out.2.2.2.2.2 ?_
              (case hs => simp [Act.eval, Act.put])
              (case hx => simp [Act.eval, Act.put])
              intro uo uc w4 hx hch _ hx2
              have hm := wmid_next H3.out.below H3.out.new hx hch hx2
              obtain ⟨s0, s2⟩ := cells1 (HP.out _ hm.below).1
              have hu := fun v => cells2 ((Chg.one w4 p 0 v).heap (HP.out _ hm.below).2 (fun e => absurd (e : w.heap.size = p) (Nat.ne_of_gt hpl)))
              obtain ⟨u3, u4, _⟩ := cells2 (HP.out _ hm.below).2
              have hS4 := And.intro u3 u4
              have hS5 := fun v => And.intro (hu v).1 (hu v).2.1
              clear hu
              have H4 := Lib.hid hm
              clear hx hch hx2 hm
              refine hK.out _ _ (And.intro ((cells1 (HP.out _ H4.out.below).1).1) (And.intro ((cells2 (HP.out _ H4.out.below).2).1) ((cells2 (HP.out _ H4.out.below).2).2.1))) (fun hHeld => ?_)
              clear hK K
              (try simp only [Act.put, List.setIfInBounds_toArray, List.set_cons_zero, List.set_cons_succ])
              refine wpAnyH_take (i := 21) (oi := { dst := some 95, op := Op.nilCheck (Operand.tmp 74), type := 0, pos := "ref.go:391", after := #[{ on := 0, ground := Ground.data }, { on := 0, ground := Ground.phase }, { on := 1, ground := Ground.phase }, { on := 2, ground := Ground.phase }, { on := 3, ground := Ground.phase }, { on := 4, ground := Ground.phase }, { on := 5, ground := Ground.phase }, { on := 6, ground := Ground.phase }, { on := 7, ground := Ground.phase }, { on := 8, ground := Ground.phase }, { on := 9, ground := Ground.phase }, { on := 10, ground := Ground.phase }, { on := 11, ground := Ground.phase }, { on := 12, ground := Ground.phase }, { on := 13, ground := Ground.phase }, { on := 14, ground := Ground.phase }, { on := 15, ground := Ground.phase }, { on := 16, ground := Ground.phase }, { on := 17, ground := Ground.phase }, { on := 18, ground := Ground.phase }, { on := 19, ground := Ground.phase }, { on := 20, ground := Ground.phase }], guard := none }) (v := ?v2721) rfl (by kernel_rfl) (by kernel_rfl) (by kernel_rfl) (fun _ _ _ h => h) (Or.inl ⟨by rfl, ?hy2721⟩) (by assumption) ?rest2721
              case hy2721 => (intro w hSw; (try dsimp only at hSw); (try obtain ⟨hSw, hSw1, hSw2⟩ := hSw); go_simp; all_goals (with_reducible rfl))
              (try simp only [Act.put, List.setIfInBounds_toArray, List.set_cons_zero, List.set_cons_succ])
              refine wpAnyH_take (i := 22) (oi := { dst := some 96, op := Op.fieldAddr 29 (Operand.tmp 95) 0, type := 0, pos := "ref.go:391", after := #[{ on := 21, ground := Ground.data }, { on := 0, ground := Ground.phase }, { on := 1, ground := Ground.phase }, { on := 2, ground := Ground.phase }, { on := 3, ground := Ground.phase }, { on := 4, ground := Ground.phase }, { on := 5, ground := Ground.phase }, { on := 6, ground := Ground.phase }, { on := 7, ground := Ground.phase }, { on := 8, ground := Ground.phase }, { on := 9, ground := Ground.phase }, { on := 10, ground := Ground.phase }, { on := 11, ground := Ground.phase }, { on := 12, ground := Ground.phase }, { on := 13, ground := Ground.phase }, { on := 14, ground := Ground.phase }, { on := 15, ground := Ground.phase }, { on := 16, ground := Ground.phase }, { on := 17, ground := Ground.phase }, { on := 18, ground := Ground.phase }, { on := 19, ground := Ground.phase }, { on := 20, ground := Ground.phase }], guard := none }) (v := ?v2822) rfl (by kernel_rfl) (by kernel_rfl) (by kernel_rfl) (fun _ _ _ h => h) (Or.inl ⟨by rfl, ?hy2822⟩) (by assumption) ?rest2822
              case hy2822 => (intro w hSw; (try dsimp only at hSw); (try obtain ⟨hSw, hSw1, hSw2⟩ := hSw); go_simp; all_goals (with_reducible rfl))
              (try simp only [Act.put, List.setIfInBounds_toArray, List.set_cons_zero, List.set_cons_succ])
              refine wpAnyH_done (by kernel_rfl) ?_ _
              refine last_do (o := { dst := none, op := Op.store 27 (Operand.tmp 96) (Operand.tmp 94), type := 0, pos := "ref.go:391", after := #[{ on := 22, ground := Ground.data }, { on := 20, ground := Ground.data }, { on := 20, ground := Ground.chain }, { on := 0, ground := Ground.phase }, { on := 1, ground := Ground.phase }, { on := 2, ground := Ground.phase }, { on := 3, ground := Ground.phase }, { on := 4, ground := Ground.phase }, { on := 5, ground := Ground.phase }, { on := 6, ground := Ground.phase }, { on := 7, ground := Ground.phase }, { on := 8, ground := Ground.phase }, { on := 9, ground := Ground.phase }, { on := 10, ground := Ground.phase }, { on := 11, ground := Ground.phase }, { on := 12, ground := Ground.phase }, { on := 13, ground := Ground.phase }, { on := 14, ground := Ground.phase }, { on := 15, ground := Ground.phase }, { on := 16, ground := Ground.phase }, { on := 17, ground := Ground.phase }, { on := 18, ground := Ground.phase }, { on := 19, ground := Ground.phase }, { on := 20, ground := Ground.phase }], guard := none }) rfl (fun K hK => ?_)
              go_simp
              refine hK.out _ _ ?_
              refine NoPanic.normal ?_
              go_wp2
              go_ret
              have hm := H4.out
              rw [HE.out] at hm
              exact ⟨rfl, rend HPF.out HCC.out (HP.out _ hm.below).1 hm.below hm.own (fun a ha => Nat.le_trans HCC.out.size (hm.new a ha)) hpl⟩
          -- END7
end Go.Proofs.Ytmkjcjdomechfaa
