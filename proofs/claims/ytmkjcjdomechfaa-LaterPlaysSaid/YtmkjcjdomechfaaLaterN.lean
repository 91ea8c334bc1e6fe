/-
  THE LAW LaterPlays OF LAYER 19, WALKED.
-/
import Derived.Test.YtmkjcjdomechfaaLaterF
import Derived.Test.YtmkjcjdomechfaaLaterK
import Derived.Test.YtmkjcjdomechfaaLaterL
import Derived.Test.YtmkjcjdomechfaaLaterM
import Derived.Deep.RegionHeld3
import Derived.Deep.CutBlock
namespace Go.Proofs.Ytmkjcjdomechfaa
open Go Go.RowKit

/-! ### both lists, and the box of an act -/
structure Duo (w0 w : World) (p q : Nat) (l l2 : List Wt) (F G : List Nat) : Prop where
  a : ListIn w0 w p l F
  b : RListAt w q l2 G
  new : ∀ k ∈ G, w0.heap.size ≤ k
  apart : ∀ k ∈ F, k ∉ G
structure Trio (w0 w : World) (p q : Nat) (l l2 : List Wt) (F G : List Nat) (T : Nat) (o : Obj) : Prop extends Duo w0 w p q l l2 F G where
  act : w.heap[T]? = some o
  tf : T ∉ F
  tg : T ∉ G
section
variable {w0 w w' : World} {p q : Nat} {l l2 l' : List Wt} {F F' G : List Nat} {T : Nat} {o : Obj}
theorem Duo.stays (h : Duo w0 w p q l l2 F G) (hb : Below w.heap.size w w') : Duo w0 w' p q l l2 F G :=
  ⟨h.a.stays hb, h.b.keep (Chg.of_below hb (fun _ => False)) (fun _ _ h => h), h.new, h.apart⟩
theorem Duo.box (h : Duo w0 w p q l l2 F G) (o : Obj) : Trio w0 (w.alloc o) p q l l2 F G w.heap.size o :=
  ⟨h.stays ((Below.refl _ w).alloc (Nat.le_refl _) o), heap_top w o, fun hk => Nat.lt_irrefl _ (h.a.list.lt _ hk), fun hk => Nat.lt_irrefl _ (h.b.lt _ hk)⟩
theorem Trio.stays (h : Trio w0 w p q l l2 F G T o) (hb : Below w.heap.size w w') : Trio w0 w' p q l l2 F G T o :=
  ⟨h.toDuo.stays hb, (Chg.of_below hb (fun _ => False)).heap h.act (fun h => h), h.tf, h.tg⟩
theorem Trio.drew (h : Trio w0 w p q l l2 F G T o) : Trio w0 w.drew p q l l2 F G T o :=
  h.stays (Below.refl _ w).drew
theorem Trio.stepA (h : Trio w0 w p q l l2 F G T o) (h1 : ListIn w0 w' p l' F') (h2 : Chg (· ∈ F) w w') (h3 : ∀ k ∈ F', k ∈ F ∨ w.heap.size ≤ k) : Trio w0 w' p q l' l2 F' G T o := by
  refine ⟨⟨h1, h.b.keep h2 (fun k hk hF => h.apart k hF hk), h.new, fun k hk hG => ?_⟩, h2.heap h.act h.tf, fun hk => ?_, h.tg⟩
  · rcases h3 k hk with h1 | h1
    · exact h.apart k h1 hG
    · have := h.b.lt k hG; omega
  · rcases h3 _ hk with h1 | h1
    · exact h.tf h1
    · have := heap_lt h.act; omega
theorem Trio.stepB (h : Trio w0 w p q l l2 F G T o) (hw : RWrote w w' q l' G) : ∃ G', Trio w0 w' p q l l' F G' T o ∧ Chg (· ∈ G) w w' := by
  obtain ⟨G', k1, k2, k3⟩ := hw
  have hlow : ∀ k, k ∈ G → w0.heap.size ≤ k := h.new
  refine ⟨G', ⟨⟨h.a.keep k2 h.apart hlow, k1, fun k hk => ?_, fun k hk hG => ?_⟩, k2.heap h.act h.tg, h.tf, fun hk => ?_⟩, k2⟩
  · rcases k3 k hk with h1 | h1
    · exact h.new k h1
    · exact Nat.le_trans h.a.below.size h1
  · rcases k3 k hG with h1 | h1
    · exact h.apart k hk h1
    · have := h.a.list.lt k hk; omega
  · rcases k3 _ hk with h1 | h1
    · exact h.tg h1
    · have := heap_lt h.act; omega
end
theorem rnew_in {w0 w : World} {p : Nat} {l : List Wt} {F : List Nat} (h : ListIn w0 w p l F) : Duo w0 (w.alloc (.cells #[.slice none 0 0] 29)) p w.heap.size l [] F [w.heap.size] :=
  ⟨h.alloc _, ⟨none, 0, 0, heap_top w _, Own.nil' _ _, by simp [blk], rfl⟩, fun k hk => by rw [List.mem_singleton] at hk; subst hk; exact h.below.size, fun k hk hG => by rw [List.mem_singleton] at hG; subst hG; exact Nat.lt_irrefl _ (h.list.lt _ hk)⟩
theorem putA (w0 : World) (p q a b at_ : Nat) (l l2 : List Wt) (F G : List Nat) (T : Nat) (o : Obj) (w : World) (h : Trio w0 w p q l l2 F G T o) :
    Calls Try.prog 10 #[.pointer (some ⟨p, 0, none⟩), .agg #[.int .u64 (a : Int), .int .u64 (b : Int)], .int .u64 (at_ : Int)] w fun e w' => e = .returned (.int .i64 (putL l a b at_).2) ∧ ∃ F', Trio w0 w' p q (putL l a b at_).1 l2 F' G T o := by
  refine (put_in w0 p l _ F _ _ _ (putL l a b at_).2 a b at_ w h.a rfl rfl rfl rfl).mono ?_
  rintro e w' ⟨rfl, F', h1, h2, h3⟩
  exact ⟨rfl, F', h.stepA h1 h2 h3⟩
theorem putB (w0 : World) (p q a b at_ : Nat) (l l2 : List Wt) (F G : List Nat) (T : Nat) (o : Obj) (w : World) (h : Trio w0 w p q l l2 F G T o) (hl : l2.length ≤ 256) :
    Calls Try.prog 11 #[.pointer (some ⟨q, 0, none⟩), .agg #[.int .u64 (a : Int), .int .u64 (b : Int)], .int .u64 (at_ : Int)] w fun e w' => e = .returned (.int .i64 (putL l2 a b at_).2) ∧ ∃ G', Trio w0 w' p q l (putL l2 a b at_).1 F G' T o := by
  refine (rput_all q a b at_ l2 G w h.b hl).mono ?_
  rintro e w' ⟨rfl, h1⟩
  obtain ⟨G', h2, _⟩ := h.stepB h1
  exact ⟨rfl, G', h2⟩
theorem dropA (w0 : World) (p q a b : Nat) (l l2 : List Wt) (F G : List Nat) (T : Nat) (o : Obj) (w : World) (h : Trio w0 w p q l l2 F G T o) :
    Calls Try.prog 12 #[.pointer (some ⟨p, 0, none⟩), .agg #[.int .u64 (a : Int), .int .u64 (b : Int)]] w fun e w' => e = .returned (.bool (dropL l a b).2) ∧ ∃ F', Trio w0 w' p q (dropL l a b).1 l2 F' G T o := by
  refine (drop_in w0 p l _ F _ _ (dropL l a b).2 a b w h.a rfl rfl rfl).mono ?_
  rintro e w' ⟨rfl, F', h1, h2, h3⟩
  exact ⟨rfl, F', h.stepA h1 h2 h3⟩
theorem dropB (w0 : World) (p q a b : Nat) (l l2 : List Wt) (F G : List Nat) (T : Nat) (o : Obj) (w : World) (h : Trio w0 w p q l l2 F G T o) (hl : l2.length ≤ 256) :
    Calls Try.prog 13 #[.pointer (some ⟨q, 0, none⟩), .agg #[.int .u64 (a : Int), .int .u64 (b : Int)]] w fun e w' => e = .returned (.bool (dropL l2 a b).2) ∧ ∃ G', Trio w0 w' p q l (dropL l2 a b).1 F G' T o := by
  refine (rdrop_all q a b l2 G w h.b (by omega)).mono ?_
  rintro e w' ⟨rfl, h1, _⟩
  obtain ⟨G', h2, _⟩ := h.stepB h1
  exact ⟨rfl, G', h2⟩
theorem dueA (w0 : World) (p q now : Nat) (l l2 : List Wt) (F G : List Nat) (T : Nat) (o : Obj) (w : World) (h : Trio w0 w p q l l2 F G T o) :
    Calls Try.prog 15 #[.pointer (some ⟨p, 0, none⟩), .int .u64 (now : Int)] w fun e w' => ∃ uo uc F', e = .returned (.slice uo (dueF l now).length uc) ∧ Own w' 2 uo (dueF l now).length uc ((dueF l now).flatMap Wt.pos) ∧ (∀ a, uo = some a → a.block ∉ G) ∧ Trio w0 w' p q (dueN l now) l2 F' G T o := by
  obtain ⟨e1, e2⟩ := due_same h.a.fine.sorted now
  refine (due_in w0 p l (dueN l now) (dueF l now) _ F _ now w h.a rfl e1 e2 rfl).mono ?_
  rintro e w' ⟨uo, uc, rfl, h1, h2, F', h3, h4, h5⟩
  exact ⟨uo, uc, F', rfl, h1, fun a ha hG => by have := h2 a ha; have := h.b.lt _ hG; omega, h.stepA h3 h4 h5⟩
theorem dueB (w0 : World) (p q now : Nat) (l l2 : List Wt) (F G : List Nat) (T : Nat) (o : Obj) (w : World) (h : Trio w0 w p q l l2 F G T o) (hl : l2.length ≤ 256) :
    Calls Try.prog 16 #[.pointer (some ⟨q, 0, none⟩), .int .u64 (now : Int)] w fun e w' => ∃ uo uc G', e = .returned (.slice uo (dueF l2 now).length uc) ∧ Own w' 2 uo (dueF l2 now).length uc ((dueF l2 now).flatMap Wt.pos) ∧ Chg (· ∈ G) w w' ∧ Trio w0 w' p q l (dueN l2 now) F G' T o := by
  refine (rdue_any q now l2 G w h.b (by omega)).mono ?_
  rintro e w' ⟨uo, m, uc, rfl, h1, h2, h3⟩
  obtain rfl : m = (dueF l2 now).length := (fl_own_len el_pos h1).symm
  obtain ⟨G', h4, hc⟩ := h.stepB h3
  exact ⟨uo, uc, G', rfl, h1, hc, h4⟩
theorem fine_puts {l : List Wt} {a b at_ : Nat} (h : l.length ≤ 256) : (putL l a b at_).1.length ≤ 256 := by
  have hd := dropL_len l a b
  unfold putL
  split
  · exact h
  · split
    · exact Nat.le_trans hd h
    · rw [insL_len]; omega
theorem actT {w : World} {T : Nat} {kd x1 x2 x3 : Int} {x4 : Bool} (h : w.heap[T]? = some (.cells #[.int .u8 kd, .int .u64 x1, .int .u64 x2, .int .u64 x3, .bool x4] 34 (0, 0))) : w.cell? ⟨T, 1, none⟩ = some (.int .u64 x1) ∧ w.cell? ⟨T, 2, none⟩ = some (.int .u64 x2) ∧ w.cell? ⟨T, 3, none⟩ = some (.int .u64 x3) := by
  obtain ⟨_, h1, h2, h3, _⟩ := acells5 h
  exact ⟨h1, h2, h3⟩
theorem few_set {w0 w : World} {p q : Nat} {l l2 : List Wt} {F G : List Nat} {T : Nat} {k a b c k2 a2 b2 c2 : Int} {r r2 : Bool} (h : Trio w0 w p q l l2 F G T (.cells #[.int .u8 k, .int .u64 a, .int .u64 b, .int .u64 c, .bool r] 34 (0, 0))) (hT : w0.heap.size ≤ T) :
    Trio w0 (((((w.setCell ⟨T, 0, none⟩ (.int .u8 k2)).setCell ⟨T, 1, none⟩ (.int .u64 a2)).setCell ⟨T, 2, none⟩ (.int .u64 b2)).setCell ⟨T, 3, none⟩ (.int .u64 c2)).setCell ⟨T, 4, none⟩ (.bool r2)) p q l l2 F G T (.cells #[.int .u8 k2, .int .u64 a2, .int .u64 b2, .int .u64 c2, .bool r2] 34 (0, 0)) := by
  have g := heap_set (heap_set (heap_set (heap_set (heap_set h.act 0 (.int .u8 k2)) 1 (.int .u64 a2)) 2 (.int .u64 b2)) 3 (.int .u64 c2)) 4 (.bool r2)
  simp only [List.setIfInBounds_toArray, List.set_cons_zero, List.set_cons_succ] at g
  have hch : Chg (fun j => j = T) w (((((w.setCell ⟨T, 0, none⟩ (.int .u8 k2)).setCell ⟨T, 1, none⟩ (.int .u64 a2)).setCell ⟨T, 2, none⟩ (.int .u64 b2)).setCell ⟨T, 3, none⟩ (.int .u64 c2)).setCell ⟨T, 4, none⟩ (.bool r2)) :=
    (((((Chg.refl (fun j => j = T) w).set (p := T) rfl 0 _).set (p := T) rfl 1 _).set (p := T) rfl 2 _).set (p := T) rfl 3 _).set (p := T) rfl 4 _
  exact ⟨⟨h.a.keep hch (fun k hk e => h.tf (e ▸ hk)) (fun k e => e ▸ hT), h.b.keep hch (fun k hk e => h.tg (e ▸ hk)), h.new, h.apart⟩, g, h.tf, h.tg⟩
set_option maxHeartbeats 8000000 in
set_option maxRecDepth 100000 in
theorem laterPlays_any (po : Option Addr) (m d : Nat) (ps : List ActW) (w : World) (hpl : ps.length = m) (hp : RowOf w po 5 ActIs ps) (hpm : m ≤ maxLen) :
    Calls Try.prog 3 #[.slice po m d] w fun e w' => e = .returned (.bool true) ∧ Below w.heap.size w w' := by
  have HH := Lib.hid (And.intro hpl hp)
  clear hpl hp
  unfold maxLen at hpm
  go_enter Try.func3, Try.ntmps3
  go_wp2_with (first
    | (go_at_call 7; (with_reducible refine (awake _).mono ?_); rintro e1 w1 ⟨rfl, hw⟩; have HW := Lib.hid hw; clear hw)
    | (go_at_call 8; (with_reducible refine (new_in w _ HW.out).mono ?_); rintro e2 w2 ⟨p, rfl, _, hn2, _⟩; have H3 := Lib.hid (rnew_in hn2); clear hn2))
  go_loopg [16] m (fun g v wr => ∃ (k : Nat) (l : List Wt) (F G : List Nat), g + k = m ∧ v = .int .i64 k ∧ Duo w wr p w2.heap.size l l F G)
  case atStart => exact ⟨0, [], _, _, by omega, rfl, H3.out⟩
  case round =>
    generalize w2.heap.size = q at *
    clear H3 HW
    obtain ⟨k, ll, F, G, hgk, rfl, hduo⟩ := hrel
    obtain ⟨K0, rfl⟩ : ∃ K0, K0 = gk := ⟨_, rfl⟩
    have HN := Lib.hid hduo
    clear hduo
    by_cases hk : k < m
    · obtain ⟨zb, zoff, rfl, hz1⟩ := HH.out.2 (by rw [HH.out.1]; omega)
      have hkl : k < ps.length := by rw [HH.out.1]; exact hk
      obtain ⟨es, hes, ⟨rfl, hx1, hx2, hx3⟩, hcell⟩ := hz1 k hkl
      have hC := Chg.of_below HN.out.a.below (fun _ => False)
      have c0 := hC.cell (hcell 0 _ rfl) (fun h => h)
      have c1 := hC.cell (hcell 1 _ rfl) (fun h => h)
      have c2 := hC.cell (hcell 2 _ rfl) (fun h => h)
      have c3 := hC.cell (hcell 3 _ rfl) (fun h => h)
      have c4 := hC.cell (hcell 4 _ rfl) (fun h => h)
      simp only [Nat.add_zero] at c0
      generalize ps[k] = tt at *
      obtain ⟨kd, x1, x2, x3, x4⟩ := tt
      dsimp only at *
      clear hcell hz1 hes hkl hC
      by_cases h300 : 300 < k
      · -- BEGIN1
        as_aux_lemma =>
          have h300i : (300 : Int) < (k : Int) := by omega
          go_wp2
          go_ret
          exact ⟨rfl, HN.out.a.below.alloc HN.out.a.below.size _⟩
        -- END1
      · have h300i : ¬ (300 : Int) < (k : Int) := by omega
        have HT0 := Lib.hid (And.intro (HN.out.box (.cells #[.int .u8 (kd.toNat : Int), .int .u64 (x1 : Int), .int .u64 (x2 : Int), .int .u64 (x3 : Int), .bool x4] 34)) HN.out.a.below.size)
        go_wp2_with fail
        generalize (wr.alloc (.cells #[.int .u8 (kd.toNat : Int), .int .u64 (x1 : Int), .int .u64 (x2 : Int), .int .u64 (x3 : Int), .bool x4] 34)) = wb at *
        generalize wr.heap.size = T at *
        (with_reducible refine (few_any _ x1 x2 x3 x4 wb).mono ?_)
        rintro e1 w1 ⟨rfl, hb1⟩
        have hT1 := HT0.out.1.stays hb1
        obtain ⟨y0, y1, y2, y3, y4⟩ := acells5 hT1.act
        have yf : ∀ i, w1.frozen? ⟨T, i, none⟩ = false := fun i => heap_frozen hT1.act i
        have HT1 := Lib.hid (few_set (k2 := (kd.toNat : Int)) (a2 := (fewN x1 12 x4 : Int)) (b2 := (fewN x2 3 x4 : Int)) (c2 := (fewN x3 4 x4 : Int)) (r2 := x4) hT1 HT0.out.2)
        clear hT1 hb1 c0 c1 c2 c3 c4 HT0
        go_upto_block 2 with fail
        generalize World.setCell (World.setCell (World.setCell (World.setCell (World.setCell w1 ⟨T, 0, none⟩ (.int .u8 (kd.toNat : Int))) ⟨T, 1, none⟩ (.int .u64 (fewN x1 12 x4 : Int))) ⟨T, 2, none⟩ (.int .u64 (fewN x2 3 x4 : Int))) ⟨T, 3, none⟩ (.int .u64 (fewN x3 4 x4 : Int))) ⟨T, 4, none⟩ (.bool x4) = wb at *
        clear y0 y1 y2 y3 y4 yf
        generalize fewN x1 12 x4 = y1 at *
        generalize fewN x2 3 x4 = y2 at *
        generalize fewN x3 4 x4 = y3 at *
        go_cut [] (fun wx => ∃ (l' : List Wt) (F' G' : List Nat), Trio w wx p q l' l' F' G' T (.cells #[.int .u8 (kd.toNat : Int), .int .u64 (y1 : Int), .int .u64 (y2 : Int), .int .u64 (y3 : Int), .bool x4] 34 (0, 0)))
        case first =>
          have H0 := HT1
          have H0d := Lib.hid H0.out.drew
          have HLL := Lib.hid (show ll.length ≤ 256 from H0.out.a.fine.len)
          obtain ⟨k0, k1, k2, k3, _⟩ := acells5 H0.out.act
          have hkd : (kd.toNat : Int) % 5 = 0 ∨ (kd.toNat : Int) % 5 = 1 ∨ (kd.toNat : Int) % 5 = 2 ∨ (kd.toNat : Int) % 5 = 3 ∨ (kd.toNat : Int) % 5 = 4 := by omega
          generalize (kd.toNat : Int) % 5 = kx at *
          rcases hkd with rfl | rfl | rfl | rfl | rfl
          · -- BEGIN2
                as_aux_lemma =>
                  have hS0 : wb.drew.cell? ⟨T, 1, none⟩ = some (.int .u64 (y1 : Int)) ∧ wb.drew.cell? ⟨T, 2, none⟩ = some (.int .u64 (y2 : Int)) ∧ wb.drew.cell? ⟨T, 3, none⟩ = some (.int .u64 (y3 : Int)) := ⟨k1, k2, k3⟩
                  go_upto_region 15 with fail
                  go_region_held3 (fun wx => wx.cell? ⟨T, 1, none⟩ = some (.int .u64 (y1 : Int)) ∧ wx.cell? ⟨T, 2, none⟩ = some (.int .u64 (y2 : Int)) ∧ wx.cell? ⟨T, 3, none⟩ = some (.int .u64 (y3 : Int)))
                    (first | exact hS0 | exact hS1 | exact hS2)
                    (first
                      | (go_at_call 10; (with_reducible refine (putA w p q y2 y3 y1 ll ll F G T _ _ H0d.out).mono ?_); rintro e1 w1 ⟨rfl, F1, h1⟩; have hS1 := actT h1.act; have H1 := Lib.hid h1; clear h1)
                      | (go_at_call 11; (with_reducible refine (putB w p q y2 y3 y1 _ ll F1 G T _ _ H1.out HLL.out).mono ?_); rintro e2 w2 ⟨rfl, G1, h2⟩; have hS2 := actT h2.act; have H2 := Lib.hid h2; clear h2))
                  go_wp2
                  go_meet
                  exact ⟨_, F1, G1, H2.out⟩
            -- END2
          · -- BEGIN3
                as_aux_lemma =>
                  have hS0 : wb.drew.cell? ⟨T, 1, none⟩ = some (.int .u64 (y1 : Int)) ∧ wb.drew.cell? ⟨T, 2, none⟩ = some (.int .u64 (y2 : Int)) ∧ wb.drew.cell? ⟨T, 3, none⟩ = some (.int .u64 (y3 : Int)) := ⟨k1, k2, k3⟩
                  go_upto_region 15 with fail
                  go_region_held3 (fun wx => wx.cell? ⟨T, 1, none⟩ = some (.int .u64 (y1 : Int)) ∧ wx.cell? ⟨T, 2, none⟩ = some (.int .u64 (y2 : Int)) ∧ wx.cell? ⟨T, 3, none⟩ = some (.int .u64 (y3 : Int)))
                    (first | exact hS0 | exact hS1 | exact hS2)
                    (first
                      | (go_at_call 10; (with_reducible refine (putA w p q y2 y3 y1 ll ll F G T _ _ H0d.out).mono ?_); rintro e1 w1 ⟨rfl, F1, h1⟩; have hS1 := actT h1.act; have H1 := Lib.hid h1; clear h1)
                      | (go_at_call 11; (with_reducible refine (putB w p q y2 y3 y1 _ ll F1 G T _ _ H1.out HLL.out).mono ?_); rintro e2 w2 ⟨rfl, G1, h2⟩; have hS2 := actT h2.act; have H2 := Lib.hid h2; clear h2))
                  go_wp2
                  go_meet
                  exact ⟨_, F1, G1, H2.out⟩
            -- END3
          · -- BEGIN4
                as_aux_lemma =>
                  have hS0 : wb.drew.cell? ⟨T, 1, none⟩ = some (.int .u64 (y1 : Int)) ∧ wb.drew.cell? ⟨T, 2, none⟩ = some (.int .u64 (y2 : Int)) ∧ wb.drew.cell? ⟨T, 3, none⟩ = some (.int .u64 (y3 : Int)) := ⟨k1, k2, k3⟩
                  go_upto_region 15 with fail
                  go_region_held3 (fun wx => wx.cell? ⟨T, 1, none⟩ = some (.int .u64 (y1 : Int)) ∧ wx.cell? ⟨T, 2, none⟩ = some (.int .u64 (y2 : Int)) ∧ wx.cell? ⟨T, 3, none⟩ = some (.int .u64 (y3 : Int)))
                    (first | exact hS0 | exact hS1 | exact hS2)
                    (first
                      | (go_at_call 10; (with_reducible refine (putA w p q y2 y3 y1 ll ll F G T _ _ H0d.out).mono ?_); rintro e1 w1 ⟨rfl, F1, h1⟩; have hS1 := actT h1.act; have H1 := Lib.hid h1; clear h1)
                      | (go_at_call 11; (with_reducible refine (putB w p q y2 y3 y1 _ ll F1 G T _ _ H1.out HLL.out).mono ?_); rintro e2 w2 ⟨rfl, G1, h2⟩; have hS2 := actT h2.act; have H2 := Lib.hid h2; clear h2))
                  go_wp2
                  go_meet
                  exact ⟨_, F1, G1, H2.out⟩
            -- END4
          · -- BEGIN5
                as_aux_lemma =>
                  have hS0 : wb.drew.cell? ⟨T, 2, none⟩ = some (.int .u64 (y2 : Int)) ∧ wb.drew.cell? ⟨T, 3, none⟩ = some (.int .u64 (y3 : Int)) := ⟨k2, k3⟩
                  go_upto_region 18 with fail
                  go_region_held3 (fun wx => wx.cell? ⟨T, 2, none⟩ = some (.int .u64 (y2 : Int)) ∧ wx.cell? ⟨T, 3, none⟩ = some (.int .u64 (y3 : Int)))
                    (first | exact hS0 | exact hS1 | exact hS2)
                    (first
                      | (go_at_call 12; (with_reducible refine (dropA w p q y2 y3 ll ll F G T _ _ H0d.out).mono ?_); rintro e1 w1 ⟨rfl, F1, h1⟩; have hS1 := (actT h1.act).2; have H1 := Lib.hid h1; clear h1)
                      | (go_at_call 13; (with_reducible refine (dropB w p q y2 y3 _ ll F1 G T _ _ H1.out HLL.out).mono ?_); rintro e2 w2 ⟨rfl, G1, h2⟩; have hS2 := (actT h2.act).2; have H2 := Lib.hid h2; clear h2))
                  go_wp2
                  go_meet
                  exact ⟨_, F1, G1, H2.out⟩
            -- END5
          · -- BEGIN6
                as_aux_lemma =>
                  have hE6 := Lib.hid (show (dueF ll y1).length ≤ 1000000 from Nat.le_trans (dueF_len ll y1) (Nat.le_trans HLL.out (by decide)))
                  have hS0 : wb.drew.cell? ⟨T, 1, none⟩ = some (.int .u64 (y1 : Int)) := k1
                  go_upto_region 10 with fail
                  go_region_held3 (fun wx => wx.cell? ⟨T, 1, none⟩ = some (.int .u64 (y1 : Int)))
                    (first | exact hS0 | exact hS1 | exact hS2 | exact hS3)
                    (first
                      | (go_at_call 15; (with_reducible refine (dueA w p q y1 ll ll F G T _ _ H0d.out).mono ?_); rintro e1 w1 ⟨uo, uc, F1, rfl, ho1, hng, h1⟩; have hS1 := (actT h1.act).1; have H1 := Lib.hid (And.intro h1 (And.intro ho1 hng)); clear h1 ho1 hng)
                      | (go_at_call 16; (with_reducible refine (dueB w p q y1 _ ll F1 G T _ _ H1.out.1 HLL.out).mono ?_); rintro e2 w2 ⟨vo, vc, G1, rfl, ho2, hch, h2⟩; have hS2 := (actT h2.act).1; have H2 := Lib.hid (And.intro h2 (And.intro ho2.row (H1.out.2.1.keep hch H1.out.2.2).row)); clear h2 ho2 hch)
                      | (go_at_call 14; (with_reducible refine (same_places uo vo _ uc vc _ _ H2.out.2.2 H2.out.2.1 rfl hE6.out).mono ?_); rintro e3 w3 ⟨rfl, hb3⟩; have h3 := H2.out.1.stays hb3; have hS3 := (actT h3.act).1; have H3 := Lib.hid h3; clear h3 hb3))
                  go_wp2
                  go_meet
                  exact ⟨_, F1, G1, H3.out⟩
            -- END6
        case rest =>
          -- BEGIN7
          as_aux_lemma =>
            obtain ⟨l', F1, G1, h1⟩ := hcut
            have HR := Lib.hid h1
            have HLL := Lib.hid (show l'.length ≤ 256 from h1.a.fine.len)
            clear h1
            go_wp2_with fail
            (with_reducible refine (all_any p l' F1 wc HR.out.a.list (Nat.le_trans HLL.out (by decide))).mono ?_)
            rintro e2 w2 ⟨xo, xc, rfl, hb2, ho2⟩
            have hD := HR.out.toDuo.stays hb2
            obtain ⟨ro, rn, rc, r1, r2, r3, _⟩ := hD.b
            have hrn := fl_own_len el_e r2
            obtain ⟨z0, z2⟩ := cells1 r1
            have HD := Lib.hid (And.intro hD (And.intro ho2 (And.intro r1 (And.intro r2 hrn))))
            have hn2 : rn ≤ 256 := by have := HLL.out; omega
            clear hD hb2 ho2 r1 r2 r3
            subst hrn
            obtain ⟨n2, hn2e⟩ : ∃ n2, l'.length = n2 := ⟨_, rfl⟩
            have HNE := Lib.hid hn2e
            simp only [hn2e] at HD z0 hn2 ⊢
            clear hn2e
            go_wp2
            go_loopg [78] n2 (fun g v wx => ∃ j : Nat, g + j = n2 ∧ v = .int .i64 j ∧ Below w2.heap.size w2 wx)
            case atStart => exact ⟨0, by omega, rfl, Below.refl _ _⟩
            case round =>
              obtain ⟨j, hgj, rfl, hb3⟩ := hrel
              have HB3 := Lib.hid hb3
              by_cases hj : j < n2
              · obtain ⟨x, hx⟩ : ∃ x, l'[j]? = some x := ⟨_, List.getElem?_eq_getElem (by rw [HNE.out]; exact hj)⟩
                have hC3 := Chg.of_below hb3 (fun _ => False)
                obtain ⟨b1, o1, rfl, a0, a1, a2⟩ := wt_at ((HD.out.2.1.keep hC3 (fun _ _ h => h)).row) hx
                obtain ⟨b2, o2, rfl, d0, d1, d2⟩ := wt_at ((HD.out.2.2.2.1.keep hC3 (fun _ _ h => h)).row) hx
                obtain ⟨e0, _⟩ := cells1 (hC3.heap HD.out.2.2.1 (fun h => h))
                have hji : (j : Int) < (n2 : Int) := by omega
                have hj0 : (0 : Int) ≤ (j : Int) := by omega
                clear hC3 hb3 hx z0
                go_wp2
                go_quiet (fail)
                go_wp2
                go_roundg (gk - 1)
                case measure => omega
                case rel => exact ⟨j + 1, by omega, by go_num, (HB3.out.trans (((Chg.refl (fun _ => False) wr).drewN _).below HB3.out.size (fun _ h => h.elim)))⟩
              · go_wp2
                go_roundg (K0 - 1)
                case measure => omega
                case rel => exact ⟨k + 1, l', F1, G1, by omega, by go_num, HD.out.1.stays HB3.out⟩
          -- END7
    · go_wp2
      go_ret
      exact ⟨rfl, HN.out.a.below⟩
theorem laterPlays_in (W : World) (base : Nat) (v0 : Value) (k0 : Value.okWide Try.prog W .any base 22 v0) (r0 : Rd Try.prog W 22 v0.cells.toList) :
    Calls Try.prog 3 #[v0] W fun e w' => e = .returned (.bool true) ∧ Below W.heap.size W w' := by
  obtain ⟨po, ps, d, rfl, h4, h5, h6⟩ := in_slice Try.underlying22 (size := 5) (by kernel_rfl) (by decide) ActIs (fun es h => act_rd h) k0 r0
  exact laterPlays_any po _ d ps W rfl h4 (Nat.le_trans h5 h6)
end Go.Proofs.Ytmkjcjdomechfaa
