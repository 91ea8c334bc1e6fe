/-
  LAYER 19: Due, Put.
-/
import Derived.Test.YtmkjcjdomechfaaLaterB
namespace Go.Proofs.Ytmkjcjdomechfaa
open Go Go.RowKit

/-! ### plain words on the order -/
theorem cmpU_neg {a b : Nat} : cmpU a b < 0 ↔ a < b := by unfold cmpU; split <;> (try split) <;> omega
theorem cmpU_pos {a b : Nat} : 0 < cmpU a b ↔ b < a := by unfold cmpU; split <;> (try split) <;> omega
theorem cmpU_zero {a b : Nat} : cmpU a b = 0 ↔ a = b := by unfold cmpU; split <;> (try split) <;> omega
/-- Ahead of, in the list's order. -/
def Wt.lt (x y : Wt) : Prop := x.at_ < y.at_ ∨ x.at_ = y.at_ ∧ (x.led < y.led ∨ x.led = y.led ∧ x.ent < y.ent)
theorem orI_neg {a b : Int} : orI a b < 0 ↔ a < 0 ∨ a = 0 ∧ b < 0 := by unfold orI; split <;> omega
theorem orI_zero {a b : Int} : orI a b = 0 ↔ a = 0 ∧ b = 0 := by unfold orI; split <;> omega
theorem wtOrd_neg {x y : Wt} : wtOrd x y < 0 ↔ x.lt y := by
  unfold wtOrd posOrd Wt.lt
  rw [orI_neg, orI_neg, cmpU_neg, cmpU_zero, cmpU_neg, cmpU_zero, cmpU_neg]
theorem wtOrd_zero {x y : Wt} : wtOrd x y = 0 ↔ x = y := by
  unfold wtOrd posOrd
  rw [orI_zero, orI_zero, cmpU_zero, cmpU_zero, cmpU_zero]
  obtain ⟨a, b, c⟩ := x
  obtain ⟨d, e, f⟩ := y
  simp
def Sorted (l : List Wt) : Prop := l.Pairwise Wt.lt
theorem Sorted.mono {l : List Wt} (h : Sorted l) (t : Wt) : ∀ (i j : Nat) (x y : Wt), i ≤ j → l[i]? = some x → l[j]? = some y → 0 ≤ wtOrd x t → 0 ≤ wtOrd y t := by
  intro i j x y hij hx hy h0
  rcases Nat.lt_or_ge i j with h1 | h1
  · obtain ⟨hi, rfl⟩ := List.getElem?_eq_some_iff.1 hx
    obtain ⟨hj, rfl⟩ := List.getElem?_eq_some_iff.1 hy
    have h2 := List.pairwise_iff_getElem.1 h i j hi hj h1
    have h3 : ¬ wtOrd l[i] t < 0 := by omega
    have h4 : ¬ wtOrd l[j] t < 0 := by
      rw [wtOrd_neg] at h3 ⊢
      unfold Wt.lt at h2 h3 ⊢
      omega
    omega
  · obtain rfl : i = j := by omega
    rw [hx] at hy; cases hy; exact h0
/-- Where an element is laid. -/
def insL (l : List Wt) (t : Wt) : List Wt := match l with
  | [] => [t]
  | x :: l => if wtOrd x t < 0 then x :: insL l t else t :: x :: l
theorem insL_at : ∀ {l : List Wt} {t : Wt} {i : Nat}, i ≤ l.length → Lo (fun x => wtOrd x t) l i → Hi (fun x => wtOrd x t) l i → insL l t = l.take i ++ [t] ++ l.drop i
  | [], t, i, hi, _, _ => by simp at hi; subst hi; rfl
  | x :: l, t, 0, _, _, hhi => by
    have := hhi 0 x (Nat.le_refl _) rfl
    dsimp only at this
    rw [insL, if_neg (by omega)]; rfl
  | x :: l, t, i + 1, hi, hlo, hhi => by
    have := hlo 0 x (by omega) rfl
    dsimp only at this
    rw [insL, if_pos this, insL_at (i := i) (by simpa using hi) (fun k y hk hy => hlo (k + 1) y (by omega) (by simpa using hy)) (fun k y hk hy => hhi (k + 1) y (by omega) (by simpa using hy))]
    rfl
theorem insL_len (l : List Wt) (t : Wt) : (insL l t).length = l.length + 1 := by
  induction l with
  | nil => rfl
  | cons x l ih =>
    unfold insL
    split
    · simp [ih]
    · simp
theorem insL_mem {l : List Wt} {t y : Wt} : y ∈ insL l t ↔ y = t ∨ y ∈ l := by
  induction l with
  | nil => simp [insL]
  | cons x l ih =>
    unfold insL
    split
    · simp [ih]; constructor <;> rintro (h | h | h) <;> simp [h]
    · simp
theorem Wt.lt_trans {x y z : Wt} (h1 : x.lt y) (h2 : y.lt z) : x.lt z := by unfold Wt.lt at *; omega
theorem Wt.lt_or {x y : Wt} (h1 : ¬ x.lt y) (h2 : x ≠ y) : y.lt x := by
  obtain ⟨a, b, c⟩ := x
  obtain ⟨d, e, f⟩ := y
  simp at h2
  unfold Wt.lt at *
  dsimp only at *
  omega
theorem insL_sorted {l : List Wt} {t : Wt} (h : Sorted l) (hn : ∀ y ∈ l, y ≠ t) : Sorted (insL l t) := by
  induction l with
  | nil => simp [insL, Sorted]
  | cons x l ih =>
    obtain ⟨h1, h2⟩ := List.pairwise_cons.1 h
    unfold insL
    split
    · rename_i hx
      rw [wtOrd_neg] at hx
      refine List.pairwise_cons.2 ⟨fun y hy => ?_, ih h2 (fun y hy => hn y (by simp [hy]))⟩
      rcases insL_mem.1 hy with rfl | hy
      · exact hx
      · exact h1 y hy
    · rename_i hx
      rw [wtOrd_neg] at hx
      have hxt := Wt.lt_or hx (hn x (by simp))
      refine List.pairwise_cons.2 ⟨fun y hy => ?_, h⟩
      rcases List.mem_cons.1 hy with rfl | hy
      · exact hxt
      · exact Wt.lt_trans hxt (h1 y hy)
theorem dropL_sub (l : List Wt) (a b : Nat) : (dropL l a b).1.Sublist l := by
  induction l with
  | nil => exact List.Sublist.refl _
  | cons e l ih =>
    rw [dropL]
    split
    · exact List.sublist_cons_self _ _
    · exact ih.cons_cons _
theorem dropL_sorted {l : List Wt} (h : Sorted l) (a b : Nat) : Sorted (dropL l a b).1 := List.Pairwise.sublist (dropL_sub l a b) h
theorem dropL_len (l : List Wt) (a b : Nat) : (dropL l a b).1.length ≤ l.length := (dropL_sub l a b).length_le
/-- No place twice. -/
def Once (l : List Wt) : Prop := l.Pairwise (fun x y => ¬ (x.led = y.led ∧ x.ent = y.ent))
theorem dropL_once {l : List Wt} (h : Once l) (a b : Nat) : Once (dropL l a b).1 := List.Pairwise.sublist (dropL_sub l a b) h
theorem dropL_gone {l : List Wt} (h : Once l) (a b : Nat) : ∀ y ∈ (dropL l a b).1, ¬ (y.led = a ∧ y.ent = b) := by
  induction l with
  | nil => simp [dropL]
  | cons e l ih =>
    obtain ⟨h1, h2⟩ := List.pairwise_cons.1 h
    rw [dropL]
    cases he : e.is a b with
    | true =>
      rw [if_pos rfl]
      simp [Wt.is] at he
      intro y hy hc
      exact h1 y hy ⟨by omega, by omega⟩
    | false =>
      rw [if_neg (by simp)]
      intro y hy
      rcases List.mem_cons.1 hy with rfl | hy
      · simp [Wt.is] at he
        rintro ⟨c1, c2⟩
        exact he c1 c2
      · exact ih h2 y hy
theorem insL_once {l : List Wt} {t : Wt} (h : Once l) (hn : ∀ y ∈ l, ¬ (y.led = t.led ∧ y.ent = t.ent)) : Once (insL l t) := by
  induction l with
  | nil => simp [insL, Once]
  | cons x l ih =>
    obtain ⟨h1, h2⟩ := List.pairwise_cons.1 h
    unfold insL
    split
    · refine List.pairwise_cons.2 ⟨fun y hy => ?_, ih h2 (fun y hy => hn y (by simp [hy]))⟩
      rcases insL_mem.1 hy with rfl | hy
      · exact hn x (by simp)
      · exact h1 y hy
    · refine List.pairwise_cons.2 ⟨fun y hy => ?_, h⟩
      have := hn y hy
      rintro ⟨c1, c2⟩
      exact this ⟨c1.symm, c2.symm⟩
def putL (l : List Wt) (a b at_ : Nat) : List Wt × Int :=
  if 1099511627776 < at_ then (l, 63)
  else if 256 ≤ (dropL l a b).1.length then ((dropL l a b).1, 14)
  else (insL (dropL l a b).1 ⟨at_, a, b⟩, 0)
/-- What a list always is. -/
structure Fine (l : List Wt) : Prop where
  sorted : Sorted l
  once : Once l
  len : l.length ≤ 256
theorem Fine.nil : Fine [] := ⟨by simp [Sorted], by simp [Once], by simp⟩
theorem Fine.drops {l : List Wt} (h : Fine l) (a b : Nat) : Fine (dropL l a b).1 := ⟨dropL_sorted h.sorted a b, dropL_once h.once a b, Nat.le_trans (dropL_len l a b) h.len⟩
theorem Fine.puts {l : List Wt} (h : Fine l) (a b at_ : Nat) : Fine (putL l a b at_).1 := by
  unfold putL
  split
  · exact h
  · split
    · exact h.drops a b
    · have hd := h.drops a b
      have hg := dropL_gone h.once a b
      refine ⟨insL_sorted hd.sorted (fun y hy e => hg y hy (by rw [e]; exact ⟨rfl, rfl⟩)), insL_once hd.once (fun y hy => hg y hy), ?_⟩
      rw [insL_len]; omega
/-! ### Put -/
theorem put_time (p a b : Nat) (at_ : Nat) (w : World) (h : 1099511627776 < at_) :
    Calls Try.prog 10 #[.pointer (some ⟨p, 0, none⟩), .agg #[.int .u64 (a : Int), .int .u64 (b : Int)], .int .u64 (at_ : Int)] w fun r w' => r = .returned (.int .i64 63) ∧ Below w.heap.size w w' := by
  have hi : (1099511627776 : Int) < (at_ : Int) := by omega
  go_enter Try.func10, Try.ntmps10
  go_wp2
  go_ret
  exact ⟨rfl, (Below.refl _ w).alloc (Nat.le_refl _) _⟩
theorem cmp_by (t : Wt) (l : List Wt) : CmpBy Try.prog 20 t.val (fun x => wtOrd x t) l :=
  ⟨fun _ _ => rfl, fun e w _ => order_wt e t w⟩
theorem put_end {w w1 W w3 : World} {p i n cap xc : Nat} {lo xo : Option Addr} {l2 : List Wt} {t : Wt} {F : List Nat} (hcw : Chg (· ∈ F) w w1) (hgw : ∀ k ∈ p :: blk lo, k ∈ F ∨ w.heap.size ≤ k) (h3 : p ∉ blk lo) (hlt' : ∃ o, w1.heap[p]? = some o) (hA : Chg (fun _ => False) w1 W)
    (hi : i ≤ l2.length) (hlo : Lo (fun x => wtOrd x t) l2 i) (hhi : Hi (fun x => wtOrd x t) l2 i) (hin : InsPost lo n ((l2.flatMap Wt.cells).take (i * 3) ++ t.cells ++ (l2.flatMap Wt.cells).drop (i * 3)) W w3 xo xc) (hp3 : w3.heap[p]? = some (.cells #[.slice lo n cap] 55 (0, 0))) :
    Wrote w (w3.setCell ⟨p, 0, none⟩ (.slice xo (n + 1) xc)) p (insL l2 t) F := by
  obtain ⟨ho, hch, hx⟩ := hin
  have hlt : p < w1.heap.size := by obtain ⟨o, h⟩ := hlt'; exact heap_lt h
  have e : (l2.flatMap Wt.cells).take (i * 3) ++ t.cells ++ (l2.flatMap Wt.cells).drop (i * 3) = (insL l2 t).flatMap Wt.cells := by
    rw [insL_at hi hlo hhi, fl_take el_e, fl_drop el_e]
    simp
  rw [e] at ho
  have hC : Chg (· ∈ F) w W := hcw.trans hA (fun _ _ h => h.elim)
  have hC3 : Chg (· ∈ F) w w3 := hC.trans hch (fun k hk ⟨a, ha, ea⟩ => by
    rcases hgw k (List.mem_cons_of_mem _ (mem_blk.2 ⟨a, ha, ea⟩)) with h | h
    · exact h
    · omega)
  have hpx : ∀ a, xo = some a → a.block ≠ p := fun a ha => by
    rcases hx a ha with h | h
    · intro e; exact h3 (mem_blk.2 ⟨a, h, e⟩)
    · have := hA.size; omega
  have hpF := hgw p (by simp)
  refine ⟨p :: blk xo, ⟨xo, n + 1, xc, heap_set hp3 0 _, ho.keep (Chg.one w3 p 0 _) (fun a ha e => hpx a ha e), fun hk => ?_, rfl⟩, hC3.setCell (fun h => hpF.elim id (fun h2 => by simp only at h; omega)) _, fun k hk => ?_⟩
  · obtain ⟨a, ha, ea⟩ := mem_blk.1 hk
    exact hpx a ha ea
  · rcases List.mem_cons.1 hk with rfl | hk
    · exact hpF
    · obtain ⟨a, ha, ea⟩ := mem_blk.1 hk
      rcases hx a ha with h | h
      · exact hgw k (List.mem_cons_of_mem _ (mem_blk.2 ⟨a, h, ea⟩))
      · right; have := hC.size; omega
set_option maxHeartbeats 2000000 in
set_option maxRecDepth 100000 in
theorem put_any (p a b at_ : Nat) (l : List Wt) (F : List Nat) (w : World) (h : ListAt w p l F) (hf : Fine l) (hat : at_ ≤ 1099511627776) :
    Calls Try.prog 10 #[.pointer (some ⟨p, 0, none⟩), .agg #[.int .u64 (a : Int), .int .u64 (b : Int)], .int .u64 (at_ : Int)] w fun r w' => r = .returned (.int .i64 (putL l a b at_).2) ∧ Wrote w w' p (putL l a b at_).1 F := by
  have hi : decide ((1099511627776 : Int) < (at_ : Int)) = false := decide_eq_false (by omega)
  obtain ⟨y0, y1, _⟩ := cells2 (heap_top w (.cells #[.int .u64 (a : Int), .int .u64 (b : Int)] 32))
  have HA := Lib.hid ((Below.refl _ w).alloc (Nat.le_refl _) (.cells #[.int .u64 (a : Int), .int .u64 (b : Int)] 32))
  have HD := Lib.hid (And.intro (drop_all p a b l F _ (h.keep (Chg.of_below HA.out (fun _ => False)) (fun _ _ h => h)) (Nat.le_trans hf.len (by decide))) (heap_top w (.cells #[.int .u64 (a : Int), .int .u64 (b : Int)] 32)))
  have HT := Lib.hid (show w.heap.size ∉ F from fun hk => Nat.lt_irrefl _ (h.lt _ hk))
  have hfd := hf.drops a b
  unfold putL
  rw [if_neg (by omega)]
  clear h
  generalize hl2 : (dropL l a b).1 = l2 at *
  by_cases h256 : 256 ≤ l2.length
  · rw [if_pos h256]
    go_enter Try.func10, Try.ntmps10
    go_wp2_with fail
    (with_reducible refine HD.out.1.mono ?_)
    rintro r w1 ⟨rfl, F1, hla, hch, hg⟩
    obtain ⟨lo, n, cap, h1, h2, h3, rfl⟩ := hla
    obtain ⟨z0, z2⟩ := cells1 h1
    have hn := fl_own_len el_e h2
    have hni : (256 : Int) ≤ (n : Int) := by omega
    have H1 := Lib.hid (And.intro (show ListAt w1 p l2 (p :: blk lo) from ⟨lo, n, cap, h1, h2, h3, rfl⟩) (And.intro hch hg))
    clear h1 h2 h3 hch hg hn
    go_wp2
    go_ret
    exact ⟨rfl, _, H1.out.1, (Chg.of_below HA.out (· ∈ F)).trans H1.out.2.1 (fun _ _ h => h), fun k hk => by
      rcases H1.out.2.2 k hk with h | h
      · exact .inl h
      · exact .inr (Nat.le_trans HA.out.size h)⟩
  · rw [if_neg h256]
    go_enter Try.func10, Try.ntmps10
    go_wp2_with fail
    (with_reducible refine HD.out.1.mono ?_)
    rintro r w1 ⟨rfl, F1, hla, hch, hg⟩
    obtain ⟨lo, n, cap, h1, h2, h3, rfl⟩ := hla
    obtain ⟨z0, z2⟩ := cells1 h1
    have hn := fl_own_len el_e h2
    have hn256 : n < 256 := by omega
    have hni : decide ((256 : Int) ≤ (n : Int)) = false := decide_eq_false (by omega)
    obtain ⟨x0, x1, _⟩ := cells2 (hch.heap HD.out.2 HT.out)
    have hcw : Chg (· ∈ F) w w1 := (Chg.of_below HA.out (· ∈ F)).trans hch (fun _ _ h => h)
    have hgw : ∀ k ∈ p :: blk lo, k ∈ F ∨ w.heap.size ≤ k := fun k hk => (hg k hk).elim .inl (fun h => .inr (Nat.le_trans HA.out.size h))
    have hA2 := (Chg.refl (fun _ => False) w1).alloc (.cells #[.int .u64 (at_ : Int), .int .u64 (a : Int), .int .u64 (b : Int)] 45)
    have hT2 := heap_top w1 (.cells #[.int .u64 (at_ : Int), .int .u64 (a : Int), .int .u64 (b : Int)] 45)
    obtain ⟨v0, v1, v2, _⟩ := cells3 hT2
    obtain ⟨u0, u2⟩ := cells1 (hA2.heap h1 (fun h => h))
    have HK := Lib.hid (And.intro hcw (And.intro hgw (And.intro h3 (And.intro (Exists.intro (p := fun o => w1.heap[p]? = some o) _ h1) (And.intro (h2.keep hA2 (fun _ _ h => h)) (And.intro (hA2.heap h1 (fun h => h)) hT2))))))
    have hnn := hn
    clear h1 h2 h3 hch hg hcw hgw hA2 hT2 hn y0 y1
    go_upto_region 9 with fail
    obtain ⟨W8, hW8⟩ : ∃ W8, W8 = w1.alloc (.cells #[.int .u64 (at_ : Int), .int .u64 (a : Int), .int .u64 (b : Int)] 45) := ⟨_, rfl⟩
    have HS8 := Lib.hid (show Chg (fun _ => False) w1 W8 by rw [hW8]; exact (Chg.refl _ w1).alloc _)
    rw [← hW8] at HK u0 u2 v0 v1 v2 ⊢
    generalize w1.heap.size = T2 at *
    clear hW8
    have hS0 : W8.drew.cell? ⟨p, 0, none⟩ = some (.slice lo n cap) ∧ W8.drew.cell? ⟨T2, 0, none⟩ = some (.int .u64 (at_ : Int)) ∧ W8.drew.cell? ⟨T2, 1, none⟩ = some (.int .u64 (a : Int)) ∧ W8.drew.cell? ⟨T2, 2, none⟩ = some (.int .u64 (b : Int)) := ⟨u0, v0, v1, v2⟩
    have HBS := Lib.hid (show Calls Try.prog 19 #[.slice lo n cap, .agg #[.int .u64 (at_ : Int), .int .u64 (a : Int), .int .u64 (b : Int)], .func (.func 20) #[] #[]] W8.drew _ from bs_any (tg := ⟨at_, a, b⟩) lo n cap l2 W8.drew HK.out.2.2.2.2.1.row.drew hnn (by omega) (cmp_by _ l2) (hfd.sorted.mono _))
    go_region_held3 (fun wx => wx.cell? ⟨p, 0, none⟩ = some (.slice lo n cap) ∧ wx.cell? ⟨T2, 0, none⟩ = some (.int .u64 (at_ : Int)) ∧ wx.cell? ⟨T2, 1, none⟩ = some (.int .u64 (a : Int)) ∧ wx.cell? ⟨T2, 2, none⟩ = some (.int .u64 (b : Int)))
      (first | exact hS0 | exact hS1)
      (first
        | (go_at_call 19; (with_reducible refine HBS.out.mono ?_); rintro r w2 ⟨i, fd, rfl, hb2, hin, hlo, hhi, _⟩; have hch := Chg.of_below hb2 (fun _ => False); have hS1 : w2.cell? ⟨p, 0, none⟩ = some (.slice lo n cap) ∧ w2.cell? ⟨T2, 0, none⟩ = some (.int .u64 (at_ : Int)) ∧ w2.cell? ⟨T2, 1, none⟩ = some (.int .u64 (a : Int)) ∧ w2.cell? ⟨T2, 2, none⟩ = some (.int .u64 (b : Int)) := ⟨hch.cell (w := W8.drew) u0 (fun h => h), hch.cell (w := W8.drew) v0 (fun h => h), hch.cell (w := W8.drew) v1 (fun h => h), hch.cell (w := W8.drew) v2 (fun h => h)⟩; have H2 := Lib.hid (And.intro hch (And.intro hin (And.intro hlo hhi))); clear hch hb2 hin hlo hhi))
    obtain ⟨g0, g1, g2, g3⟩ := hS1
    have hpf := heap_frozen (H2.out.1.heap (w := W8.drew) HK.out.2.2.2.2.2.1 (fun h => h)) 0
    have g0d : w2.drew.cell? ⟨p, 0, none⟩ = some (.slice lo n cap) := g0
    have g1d : w2.drew.cell? ⟨T2, 0, none⟩ = some (.int .u64 (at_ : Int)) := g1
    have g2d : w2.drew.cell? ⟨T2, 1, none⟩ = some (.int .u64 (a : Int)) := g2
    have g3d : w2.drew.cell? ⟨T2, 2, none⟩ = some (.int .u64 (b : Int)) := g3
    have g0e : (w2.alloc (.cells #[.int .u64 (at_ : Int), .int .u64 (a : Int), .int .u64 (b : Int)] 45)).drew.cell? ⟨p, 0, none⟩ = some (.slice lo n cap) := alloc_cell g0
    have g1e : (w2.alloc (.cells #[.int .u64 (at_ : Int), .int .u64 (a : Int), .int .u64 (b : Int)] 45)).drew.cell? ⟨T2, 0, none⟩ = some (.int .u64 (at_ : Int)) := alloc_cell g1
    have g2e : (w2.alloc (.cells #[.int .u64 (at_ : Int), .int .u64 (a : Int), .int .u64 (b : Int)] 45)).drew.cell? ⟨T2, 1, none⟩ = some (.int .u64 (a : Int)) := alloc_cell g2
    have g3e : (w2.alloc (.cells #[.int .u64 (at_ : Int), .int .u64 (a : Int), .int .u64 (b : Int)] 45)).drew.cell? ⟨T2, 2, none⟩ = some (.int .u64 (b : Int)) := alloc_cell g3
    have hOw : Own w2 3 lo n cap (l2.flatMap Wt.cells) := HK.out.2.2.2.2.1.drew.keep H2.out.1 (fun _ _ h => h)
    have hAl : Chg (fun _ => False) w2 (w2.alloc (.cells #[.int .u64 (at_ : Int), .int .u64 (a : Int), .int .u64 (b : Int)] 45)).drew := ((Chg.refl (fun _ => False) w2).alloc _).drew
    have hlt2 : ∀ q, lo = some q → q.block ≠ w2.heap.size := fun q hq => Nat.ne_of_lt (hOw.at_ q hq).2.1
    have HIN := Lib.hid (insert_any lo n cap (i : Int) i (l2.flatMap Wt.cells) [.int .u64 (at_ : Int), .int .u64 (a : Int), .int .u64 (b : Int)] w2.heap.size #[.int .u64 (at_ : Int), .int .u64 (a : Int), .int .u64 (b : Int)] 45 (w2.alloc (.cells #[.int .u64 (at_ : Int), .int .u64 (a : Int), .int .u64 (b : Int)] 45)).drew (hOw.keep hAl (fun _ _ h => h)) rfl H2.out.2.1 (by omega) (fl_one el_e l2) rfl (el_e.one ⟨at_, a, b⟩) (heap_top w2 _) rfl hlt2)
    clear hOw hlt2 hS0 z0 z2 x0 x1 u0 u2 v0 v1 v2
    go_wp2
    go_region_with (go_at_call 21; (with_reducible refine HIN.out.mono ?_); rintro r w3 ⟨xo, xc, rfl, hin⟩; have hp3 := hin.2.1.heap (hAl.heap (H2.out.1.heap (w := W8.drew) HK.out.2.2.2.2.2.1 (fun h => h)) (fun h => h)) (fun ⟨q, hq, e⟩ => HK.out.2.2.1 (mem_blk.2 ⟨q, hq, e⟩)); obtain ⟨f0, f2⟩ := cells1 hp3; have H3 := Lib.hid (And.intro hin hp3); clear hin hp3)
    all_goals go_wp2
    all_goals (
      go_ret
      exact ⟨rfl, put_end HK.out.1 HK.out.2.1 HK.out.2.2.1 HK.out.2.2.2.1 ((HS8.out.drew.trans H2.out.1 (fun _ _ h => h)).trans hAl (fun _ _ h => h)) (by rw [hnn]; exact H2.out.2.1) H2.out.2.2.1 H2.out.2.2.2 H3.out.1 H3.out.2⟩)
theorem put_all (p a b at_ : Nat) (l : List Wt) (F : List Nat) (w : World) (h : ListAt w p l F) (hf : Fine l) :
    Calls Try.prog 10 #[.pointer (some ⟨p, 0, none⟩), .agg #[.int .u64 (a : Int), .int .u64 (b : Int)], .int .u64 (at_ : Int)] w fun r w' => r = .returned (.int .i64 (putL l a b at_).2) ∧ Wrote w w' p (putL l a b at_).1 F := by
  by_cases h1 : 1099511627776 < at_
  · unfold putL
    rw [if_pos h1]
    refine (put_time p a b at_ w h1).mono ?_
    rintro r w' ⟨rfl, hb⟩
    exact ⟨rfl, .same h hb⟩
  · exact put_any p a b at_ l F w h hf (by omega)
end Go.Proofs.Ytmkjcjdomechfaa
