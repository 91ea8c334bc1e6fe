/-
  THE LAW LeasePlays OF LAYER 7, WALKED.
-/
import Derived.Test.YtgcldmmhfleggaaLeaseZb
import Derived.Deep.RegionHeld3
namespace Go.Proofs.Ytgcldmmhfleggaa
open Go Go.RowKit

def Valid (last : Nat) (l : List Sess) : Prop := l.length ≤ 16 ∧ ∀ k e, l[k]? = some e → Good last l k e
theorem not_valid {last : Nat} {l : List Sess} (h : ¬ Valid last l) (hl : l.length ≤ 16) : ∃ K, (∀ k, k < K → ∀ e, l[k]? = some e → Good last l k e) ∧ ∃ e, l[K]? = some e ∧ ¬ Good last l K e := by
  rcases first_bad last l l.length with h1 | ⟨k, _, e, he, hb, h2⟩
  · refine absurd ⟨hl, fun k e he => h1 k ?_ e he⟩ h
    exact (List.getElem?_eq_some_iff.1 he).1
  · exact ⟨k, h2, e, he, hb⟩
theorem new_false (last : Nat) (ao : Option Addr) (n c : Nat) (l : List Sess) (w : World) (hn : l.length = n) (hr : Row w ao (l.flatMap Sess.cells)) (hm : n ≤ 1000000) (hv : ¬ Valid last l) :
    Calls Try.prog 9 #[.int .u64 (last : Int), .slice ao n c] w fun e w' => e = .returned (.tuple #[.pointer none, .bool false]) ∧ Below w.heap.size w w' := by
  by_cases h16 : 16 < n
  · refine (new_long (last : Int) ao n c w h16 hm).mono ?_
    rintro e w' ⟨rfl, rfl⟩
    exact ⟨rfl, Below.refl _ _⟩
  · obtain ⟨K, hg, hb⟩ := not_valid hv (by omega)
    exact new_bad last ao n c K l w hn hr (by omega) hg hb
theorem bookof_false (last : Nat) (ao : Option Addr) (n c : Nat) (l : List Sess) (w : World) (hn : l.length = n) (hr : Row w ao (l.flatMap Sess.cells)) (hm : n ≤ 1000000) (hv : ¬ Valid last l) :
    Calls Try.prog 17 #[.int .u64 (last : Int), .slice ao n c] w fun e w' => e = .returned (.tuple #[.pointer none, .bool false]) ∧ Below w.heap.size w w' := by
  by_cases h16 : 16 < n
  · refine (bookof_long (last : Int) ao n c w h16 hm).mono ?_
    rintro e w' ⟨rfl, rfl⟩
    exact ⟨rfl, Below.refl _ _⟩
  · obtain ⟨K, hg, hb⟩ := not_valid hv (by omega)
    exact bookof_bad last ao n c K l w hn hr (by omega) hg hb
/-! ### both books, and the box of an act -/
structure Duo (w0 w : World) (p q last : Nat) (l : List Sess) (last2 : Nat) (l2 : List Sess) (F G : List Nat) : Prop where
  a : BookIn w0 w p last l F
  b : RBookAt w q last2 l2 G
  new : ∀ k ∈ G, w0.heap.size ≤ k
  apart : ∀ k ∈ F, k ∉ G
structure Trio (w0 w : World) (p q last : Nat) (l : List Sess) (last2 : Nat) (l2 : List Sess) (F G : List Nat) (T : Nat) (o : Obj) : Prop extends Duo w0 w p q last l last2 l2 F G where
  act : w.heap[T]? = some o
  tf : T ∉ F
  tg : T ∉ G
section
variable {w0 w w' : World} {p q last last2 last' : Nat} {l l2 l' : List Sess} {F G : List Nat} {T : Nat} {o : Obj}
theorem Duo.stays (h : Duo w0 w p q last l last2 l2 F G) (hb : Below w.heap.size w w') : Duo w0 w' p q last l last2 l2 F G :=
  ⟨h.a.stays hb, h.b.keep (Chg.of_below hb (fun _ => False)) (fun _ _ h => h), h.new, h.apart⟩
theorem Duo.box (h : Duo w0 w p q last l last2 l2 F G) (o : Obj) : Trio w0 (w.alloc o) p q last l last2 l2 F G w.heap.size o :=
  ⟨h.stays ((Below.refl _ w).alloc (Nat.le_refl _) o), heap_top w o, fun hk => Nat.lt_irrefl _ (h.a.book.lt _ hk), fun hk => Nat.lt_irrefl _ (h.b.lt _ hk)⟩
theorem Trio.stays (h : Trio w0 w p q last l last2 l2 F G T o) (hb : Below w.heap.size w w') : Trio w0 w' p q last l last2 l2 F G T o :=
  ⟨h.toDuo.stays hb, (Chg.of_below hb (fun _ => False)).heap h.act (fun h => h), h.tf, h.tg⟩
theorem Trio.drew (h : Trio w0 w p q last l last2 l2 F G T o) : Trio w0 w.drew p q last l last2 l2 F G T o :=
  h.stays (Below.refl _ w).drew
theorem Trio.stepA (h : Trio w0 w p q last l last2 l2 F G T o) (hw : Wrote w w' p last' l' F) : ∃ F', Trio w0 w' p q last' l' last2 l2 F' G T o := by
  obtain ⟨F', k1, k2, k3⟩ := h.a.wrote hw
  refine ⟨F', ⟨⟨k1, h.b.keep k2 (fun k hk hF => h.apart k hF hk), h.new, fun k hk hG => ?_⟩, k2.heap h.act h.tf, fun hk => ?_, h.tg⟩⟩
  · rcases k3 k hk with h1 | h1
    · exact h.apart k h1 hG
    · have := h.b.lt k hG; omega
  · rcases k3 _ hk with h1 | h1
    · exact h.tf h1
    · have := heap_lt h.act; omega
theorem Trio.stepB (h : Trio w0 w p q last l last2 l2 F G T o) (hw : RWrote w w' q last' l' G) : ∃ G', Trio w0 w' p q last l last' l' F G' T o := by
  obtain ⟨G', k1, k2, k3⟩ := hw
  have hlow : ∀ k, k ∈ G → w0.heap.size ≤ k := h.new
  refine ⟨G', ⟨⟨h.a.keep k2 h.apart hlow, k1, fun k hk => ?_, fun k hk hG => ?_⟩, k2.heap h.act h.tg, h.tf, fun hk => ?_⟩⟩
  · rcases k3 k hk with h1 | h1
    · exact h.new k h1
    · exact Nat.le_trans h.a.below.size h1
  · rcases k3 k hG with h1 | h1
    · exact h.apart k hk h1
    · have := h.a.book.lt k hk; omega
  · rcases k3 _ hk with h1 | h1
    · exact h.tg h1
    · have := heap_lt h.act; omega
end
theorem expA (w0 : World) (p q last last2 now : Nat) (l l2 : List Sess) (F G : List Nat) (T : Nat) (o : Obj) (w : World) (h : Trio w0 w p q last l last2 l2 F G T o) (hl : l.length ≤ 1000000) :
    Calls Try.prog 12 #[.pointer (some ⟨p, 0, none⟩), .int .u64 (now : Int)] w fun e w' => ∃ uo uc F', e = .returned (.slice uo (expired l now).length uc) ∧ Own w' 1 uo (expired l now).length uc ((expired l now).map idCell) ∧ (∀ a, uo = some a → a.block ∉ G) ∧ Trio w0 w' p q last (stays l now) last2 l2 F' G T o := by
  refine (expire_any p last now l F w h.a.book hl).mono ?_
  rintro e w' ⟨uo, m, uc, rfl, h1, h2, h3⟩
  obtain rfl : m = (expired l now).length := by have := h1.len; rw [List.length_map] at this; omega
  obtain ⟨F', h4⟩ := h.stepA h3
  exact ⟨uo, uc, F', rfl, h1, fun a ha hG => by have := h2 a ha; have := h.b.lt _ hG; omega, h4⟩
theorem expB (w0 : World) (p q last last2 now : Nat) (l l2 : List Sess) (F G : List Nat) (T : Nat) (o : Obj) (w : World) (h : Trio w0 w p q last l last2 l2 F G T o) (hl : l2.length ≤ 1000000) :
    Calls Try.prog 21 #[.pointer (some ⟨q, 0, none⟩), .int .u64 (now : Int)] w fun e w' => ∃ uo uc G', e = .returned (.slice uo (expired l2 now).length uc) ∧ Own w' 1 uo (expired l2 now).length uc ((expired l2 now).map idCell) ∧ Chg (· ∈ G) w w' ∧ Trio w0 w' p q last l last2 (stays l2 now) F G' T o := by
  refine (rexpire_any q last2 now l2 G w h.b hl).mono ?_
  rintro e w' ⟨uo, m, uc, rfl, h1, h2, h3⟩
  obtain rfl : m = (expired l2 now).length := by have := h1.len; rw [List.length_map] at this; omega
  have hc := h3
  obtain ⟨G', h4⟩ := h.stepB h3
  obtain ⟨_, _, hc, _⟩ := hc
  exact ⟨uo, uc, G', rfl, h1, hc, h4⟩
theorem act4 {w : World} {T : Nat} {a b c d : Value} {t : TypeId} (h : w.heap[T]? = some (.cells #[a, b, c, d] t (0, 0))) : w.cell? ⟨T, 0, none⟩ = some a ∧ w.cell? ⟨T, 1, none⟩ = some b ∧ w.cell? ⟨T, 2, none⟩ = some c ∧ w.cell? ⟨T, 3, none⟩ = some d := by
  have h0 := heap_cell h 0
  have h1 := heap_cell h 1
  have h2 := heap_cell h 2
  have h3 := heap_cell h 3
  simp at h0 h1 h2 h3
  exact ⟨h0, h1, h2, h3⟩
set_option maxHeartbeats 8000000 in
set_option maxRecDepth 100000 in
theorem leasePlays_any (last : Nat) (lo : Option Addr) (n lc : Nat) (l : List Sess) (po : Option Addr) (m d : Nat) (ps : List ActL) (w : World) (hlast : last < 18446744073709551616) (hn : l.length = n) (hr : Row w lo (l.flatMap Sess.cells)) (hlife : ∀ e ∈ l, e.life < 18446744073709551616)
    (hpl : ps.length = m) (hp : RowOf w po 4 ActIs ps) (hpm : m ≤ maxLen) :
    Calls Try.prog 6 #[.int .u64 (last : Int), .slice lo n lc, .slice po m d] w fun e w' => e = .returned (.bool true) ∧ Below w.heap.size w w' := by
  have HH := Lib.hid (And.intro hpl (And.intro hp (And.intro hn (And.intro hr hlife))))
  clear hpl hp hn hr hlife
  unfold maxLen at hpm
  by_cases h40 : 40 < n
  · have h40i : (40 : Int) < (n : Int) := by omega
    go_enter Try.func6, Try.ntmps6
    go_wp2_with (go_at_call 8; (with_reducible refine (awake _).mono ?_); rintro e1 w1 ⟨rfl, hw⟩; have HW := Lib.hid hw; clear hw)
    go_ret
    exact ⟨rfl, HW.out⟩
  · have h40i : ¬ (40 : Int) < (n : Int) := by omega
    by_cases hv : Valid last l
    · have HV := Lib.hid (show l.length ≤ 16 ∧ ∀ k e, l[k]? = some e → Good last l k e from hv)
      have h16 : n ≤ 16 := by rw [← HH.out.2.2.1]; exact hv.1
      clear hv
      go_enter Try.func6, Try.ntmps6
      go_wp2_with (first
        | (go_at_call 8; (with_reducible refine (awake _).mono ?_); rintro e1 w1 ⟨rfl, hw⟩; have HW := Lib.hid hw; clear hw)
        | (go_at_call 9; (with_reducible refine (new_ok last lo n lc l _ HH.out.2.2.1 (HH.out.2.2.2.1.below HW.out) h16 (fun k _ e he => HV.out.2 k e he)).mono ?_); rintro e2 w2 ⟨p, F0, rfl, hb2, hbk, hF0⟩; have H2 := Lib.hid (And.intro hb2 (And.intro (show BookIn w w2 p last l F0 from ⟨hbk, fun k hk => Nat.le_trans HW.out.size (hF0 k hk), HW.out.trans (hb2.mono HW.out.size)⟩) hF0)); clear hb2 hbk hF0)
        | (go_at_call 17; (with_reducible refine (bookof_ok last lo n lc l _ HH.out.2.2.1 (HH.out.2.2.2.1.below H2.out.2.1.below) h16 (fun k _ e he => HV.out.2 k e he)).mono ?_); rintro e3 w3 ⟨q, G0, rfl, hb3, hbk, hG0⟩; have H3 := Lib.hid (show Duo w w3 p q last l last l F0 G0 from ⟨H2.out.2.1.stays hb3, hbk, fun k hk => Nat.le_trans H2.out.2.1.below.size (hG0 k hk), fun k hk hG => by have := H2.out.2.1.book.lt k hk; have := hG0 k hG; omega⟩); clear hb3 hbk hG0))
      have HF := Lib.hid (show Fit last l from ⟨HV.out.1, hlast, HH.out.2.2.2.2⟩)
      clear hlast h40 h40i h16
      go_loopg [50] m (fun g v wr => ∃ (k last : Nat) (l : List Sess) (F G : List Nat), g + k = m ∧ v = .int .i64 k ∧ Duo w wr p q last l last l F G ∧ Fit last l)
      case atStart => exact ⟨0, last, l, F0, G0, by omega, rfl, H3.out, HF.out⟩
      case round =>
        clear H2 H3 HV HW HF
        obtain ⟨k, la, ll, F, G, hgk, rfl, hduo, hfit⟩ := hrel
        obtain ⟨K0, rfl⟩ : ∃ K0, K0 = gk := ⟨_, rfl⟩
        have HN := Lib.hid (And.intro hduo hfit)
        clear hduo hfit
        by_cases hk : k < m
        · obtain ⟨zb, zoff, rfl, hz1⟩ := HH.out.2.1 (by rw [HH.out.1]; omega)
          have hkl : k < ps.length := by rw [HH.out.1]; exact hk
          obtain ⟨es, hes, ⟨rfl, hx1, hx2, hx3⟩, hcell⟩ := hz1 k hkl
          have hC := Chg.of_below HN.out.1.a.below (fun _ => False)
          have c0 := hC.cell (hcell 0 _ rfl) (fun h => h)
          have c1 := hC.cell (hcell 1 _ rfl) (fun h => h)
          have c2 := hC.cell (hcell 2 _ rfl) (fun h => h)
          have c3 := hC.cell (hcell 3 _ rfl) (fun h => h)
          simp only [Nat.add_zero] at c0
          generalize ps[k] = tt at *
          obtain ⟨kd, x1, x2, x3⟩ := tt
          dsimp only at *
          clear hcell hz1 hes hkl hC
          by_cases h100 : 100 < k
          · -- BEGIN1
            as_aux_lemma =>
              have h100i : (100 : Int) < (k : Int) := by omega
              go_wp2
              go_ret
              exact ⟨rfl, HN.out.1.a.below.alloc HN.out.1.a.below.size _⟩
            -- END1
          · have h100i : ¬ (100 : Int) < (k : Int) := by omega
            go_upto_block 2 with fail
            have HT0 := Lib.hid (HN.out.1.box (.cells #[.int .u8 (kd.toNat : Int), .int .u64 (x1 : Int), .int .u64 (x2 : Int), .int .u64 (x3 : Int)] 40))
            generalize (wr.alloc (.cells #[.int .u8 (kd.toNat : Int), .int .u64 (x1 : Int), .int .u64 (x2 : Int), .int .u64 (x3 : Int)] 40)) = wb at *
            generalize wr.heap.size = T at *
            go_cut [] (fun wx => ∃ (la' : Nat) (ll' : List Sess) (F' G' : List Nat), Trio w wx p q la' ll' la' ll' F' G' T (.cells #[.int .u8 (kd.toNat : Int), .int .u64 (x1 : Int), .int .u64 (x2 : Int), .int .u64 (x3 : Int)] 40 (0, 0)) ∧ Fit la' ll')
            case first =>
              have HFT := Lib.hid HN.out.2
              have HFL := Lib.hid (show la < 18446744073709551616 ∧ ∀ e ∈ ll, e.life < 18446744073709551616 from ⟨HN.out.2.2.1, HN.out.2.2.2⟩)
              have HLL := Lib.hid (show ll.length ≤ 1000000 from Nat.le_trans HN.out.2.1 (by decide))
              have HF16 := Lib.hid (show ll.length ≤ 16 from HN.out.2.1)
              have H0 := HT0
              obtain ⟨k0, k1, k2, k3⟩ := act4 H0.out.act
              have hkd : (kd.toNat : Int) % 5 = 0 ∨ (kd.toNat : Int) % 5 = 1 ∨ (kd.toNat : Int) % 5 = 2 ∨ (kd.toNat : Int) % 5 = 3 ∨ (kd.toNat : Int) % 5 = 4 := by omega
              generalize (kd.toNat : Int) % 5 = kx at *
              clear c0 c1 c2 c3 HT0
              rcases hkd with rfl | rfl | rfl | rfl | rfl
              · -- BEGIN2
                as_aux_lemma =>
                  go_wp2_with (first
                    | (go_at_call 10; (with_reducible refine (open_all p la x2 x3 ll F _ H0.out.a.book HFL.out.1 hx2).mono ?_); rintro e1 w1 ⟨rfl, hw1⟩; obtain ⟨F1, h1⟩ := H0.out.stepA hw1; obtain ⟨y0, y1, y2, y3⟩ := act4 h1.act; have H1 := Lib.hid h1; clear hw1 h1)
                    | (go_at_call 18; (with_reducible refine (ropen_all q la x2 x3 ll G _ H1.out.b HF16.out HFL.out.1 hx2).mono ?_); rintro e2 w2 ⟨rfl, hw2⟩; obtain ⟨G1, h2⟩ := H1.out.stepB hw2; have H2 := Lib.hid h2; clear hw2 h2))
                  go_meet
                  exact ⟨_, _, F1, G1, H2.out, HFT.out.opens⟩
                -- END2
              · -- BEGIN3
                as_aux_lemma =>
                  go_wp2_with (first
                    | (go_at_call 10; (with_reducible refine (open_all p la x2 x3 ll F _ H0.out.a.book HFL.out.1 hx2).mono ?_); rintro e1 w1 ⟨rfl, hw1⟩; obtain ⟨F1, h1⟩ := H0.out.stepA hw1; obtain ⟨y0, y1, y2, y3⟩ := act4 h1.act; have H1 := Lib.hid h1; clear hw1 h1)
                    | (go_at_call 18; (with_reducible refine (ropen_all q la x2 x3 ll G _ H1.out.b HF16.out HFL.out.1 hx2).mono ?_); rintro e2 w2 ⟨rfl, hw2⟩; obtain ⟨G1, h2⟩ := H1.out.stepB hw2; have H2 := Lib.hid h2; clear hw2 h2))
                  go_meet
                  exact ⟨_, _, F1, G1, H2.out, HFT.out.opens⟩
                -- END3
              · -- BEGIN4
                as_aux_lemma =>
                  have H0d := Lib.hid H0.out.drew
                  have hS0 : wb.drew.cell? ⟨T, 1, none⟩ = some (.int .u64 (x1 : Int)) ∧ wb.drew.cell? ⟨T, 2, none⟩ = some (.int .u64 (x2 : Int)) := ⟨k1, k2⟩
                  go_upto_region 23 with fail
                  go_region_held3 (fun wx => wx.cell? ⟨T, 1, none⟩ = some (.int .u64 (x1 : Int)) ∧ wx.cell? ⟨T, 2, none⟩ = some (.int .u64 (x2 : Int)))
                    (first | exact hS0 | exact hS1 | exact hS2)
                    (first
                      | (go_at_call 13; (with_reducible refine (renew_any p la x1 x2 ll F _ H0d.out.a.book HLL.out hx2 HFL.out.2).mono ?_); rintro e1 w1 ⟨rfl, hw1⟩; obtain ⟨F1, h1⟩ := H0d.out.stepA hw1; have hS1 := (And.intro (act4 h1.act).2.1 (act4 h1.act).2.2.1); have H1 := Lib.hid h1; clear hw1 h1)
                      | (go_at_call 19; (with_reducible refine (rrenew_any q la x1 x2 ll G _ H1.out.b HLL.out hx2 HFL.out.2).mono ?_); rintro e2 w2 ⟨rfl, hw2⟩; obtain ⟨G1, h2⟩ := H1.out.stepB hw2; have hS2 := (And.intro (act4 h2.act).2.1 (act4 h2.act).2.2.1); have H2 := Lib.hid h2; clear hw2 h2))
                  go_wp2
                  go_meet
                  exact ⟨_, _, F1, G1, H2.out, HFT.out.renews⟩
                -- END4
              · -- BEGIN5
                as_aux_lemma =>
                  have H0d := Lib.hid H0.out.drew
                  have hL4 := Lib.hid (show ll.length ≤ 4096 from Nat.le_trans HFT.out.1 (by decide))
                  have hS0 : wb.drew.cell? ⟨T, 1, none⟩ = some (.int .u64 (x1 : Int)) := k1
                  go_upto_region 26 with fail
                  go_region_held3 (fun wx => wx.cell? ⟨T, 1, none⟩ = some (.int .u64 (x1 : Int)))
                    (first | exact hS0 | exact hS1 | exact hS2)
                    (first
                      | (go_at_call 16; (with_reducible refine (close_all p la x1 ll F _ H0d.out.a.book hL4.out).mono ?_); rintro e1 w1 ⟨rfl, hw1⟩; obtain ⟨F1, h1⟩ := H0d.out.stepA hw1; have hS1 := (act4 h1.act).2.1; have H1 := Lib.hid h1; clear hw1 h1)
                      | (go_at_call 20; (with_reducible refine (rclose_all q la x1 ll G _ H1.out.b hL4.out).mono ?_); rintro e2 w2 ⟨rfl, hw2⟩; obtain ⟨G1, h2⟩ := H1.out.stepB hw2; have hS2 := (act4 h2.act).2.1; have H2 := Lib.hid h2; clear hw2 h2))
                  go_wp2
                  go_meet
                  exact ⟨_, _, F1, G1, H2.out, HFT.out.closes⟩
                -- END5
              · -- BEGIN6
                as_aux_lemma =>
                  have H0d := Lib.hid H0.out.drew
                  have hE6 := Lib.hid (show (expired ll x2).length ≤ 1000000 from Nat.le_trans (expired_len ll x2) HLL.out)
                  have hS0 : wb.drew.cell? ⟨T, 2, none⟩ = some (.int .u64 (x2 : Int)) := k2
                  go_upto_region 14 with fail
                  go_region_held3 (fun wx => wx.cell? ⟨T, 2, none⟩ = some (.int .u64 (x2 : Int)))
                    (first | exact hS0 | exact hS1 | exact hS2 | exact hS3)
                    (first
                      | (go_at_call 12; (with_reducible refine (expA w p q la la x2 ll ll F G T _ _ H0d.out HLL.out).mono ?_); rintro e1 w1 ⟨uo, uc, F1, rfl, ho1, hng, h1⟩; have hS1 := (act4 h1.act).2.2.1; have H1 := Lib.hid (And.intro h1 (And.intro ho1 hng)); clear h1 ho1 hng)
                      | (go_at_call 21; (with_reducible refine (expB w p q la la x2 (stays ll x2) ll F1 G T _ _ H1.out.1 HLL.out).mono ?_); rintro e2 w2 ⟨vo, vc, G1, rfl, ho2, hch, h2⟩; have hS2 := (act4 h2.act).2.2.1; have H2 := Lib.hid (And.intro h2 (And.intro ho2.row (H1.out.2.1.keep hch H1.out.2.2).row)); clear h2 ho2 hch)
                      | (go_at_call 14; (with_reducible refine (same_ids uo vo _ uc vc _ _ H2.out.2.2 H2.out.2.1 rfl hE6.out).mono ?_); rintro e3 w3 ⟨rfl, hb3⟩; have h3 := H2.out.1.stays hb3; have hS3 := (act4 h3.act).2.2.1; have H3 := Lib.hid h3; clear h3 hb3))
                  go_wp2
                  go_meet
                  exact ⟨_, _, F1, G1, H3.out, HFT.out.goes⟩
                -- END6
            case rest =>
              -- BEGIN7
              as_aux_lemma =>
                obtain ⟨la', ll', F1, G1, h1, hf1⟩ := hcut
                obtain ⟨k0, k1, k2, k3⟩ := act4 h1.act
                have H0d := Lib.hid h1.drew
                have HFT := Lib.hid hf1
                have HLL := Lib.hid (show ll'.length ≤ 1000000 from Nat.le_trans hf1.1 (by decide))
                have hS0 : wc.drew.cell? ⟨T, 1, none⟩ = some (.int .u64 (x1 : Int)) ∧ wc.drew.cell? ⟨T, 2, none⟩ = some (.int .u64 (x2 : Int)) := ⟨k1, k2⟩
                clear h1 hf1 c0 c1 c2 c3
                go_upto_region 28 with fail
                go_region_held3 (fun wx => wx.cell? ⟨T, 1, none⟩ = some (.int .u64 (x1 : Int)) ∧ wx.cell? ⟨T, 2, none⟩ = some (.int .u64 (x2 : Int)))
                  (first | exact hS0 | exact hS1 | exact hS2)
                  (first
                    | (go_at_call 22; (with_reducible refine (shows_any p q la' ll' F1 G1 _ H0d.out.a.book H0d.out.b HLL.out).mono ?_); rintro e1 w1 ⟨rfl, hb1⟩; have h1 := H0d.out.stays hb1; have hS1 := (And.intro (act4 h1.act).2.1 (act4 h1.act).2.2.1); have H1 := Lib.hid h1; clear hb1 h1)
                    | (go_at_call 11; (with_reducible refine (live_any p la' x1 x2 ll' F1 _ H1.out.a.book HLL.out).mono ?_); rintro e2 w2 ⟨rfl, hb2⟩; have h2 := H1.out.stays hb2; have hS2 := (And.intro (act4 h2.act).2.1 (act4 h2.act).2.2.1); have H2 := Lib.hid h2; clear hb2 h2)
                    | (go_at_call 23; (with_reducible refine (rlive_any q la' x1 x2 ll' G1 _ H2.out.b HLL.out).mono ?_); rintro e3 w3 ⟨rfl, rfl⟩))
                go_wp2
                go_roundg (K0 - 1)
                case measure => omega
                case rel => exact ⟨k + 1, la', ll', F1, G1, by omega, by go_num, H2.out.toDuo, HFT.out⟩
              -- END7
        · go_wp2
          go_ret
          exact ⟨rfl, HN.out.1.a.below⟩
    · have HV := Lib.hid hv
      clear hv
      have hn6 : n ≤ 1000000 := by omega
      go_enter Try.func6, Try.ntmps6
      go_wp2_with (first
        | (go_at_call 8; (with_reducible refine (awake _).mono ?_); rintro e1 w1 ⟨rfl, hw⟩; have HW := Lib.hid hw; clear hw)
        | (go_at_call 9; (with_reducible refine (new_false last lo n lc l _ HH.out.2.2.1 (HH.out.2.2.2.1.below HW.out) hn6 HV.out).mono ?_); rintro e2 w2 ⟨rfl, hb2⟩; have H2 := Lib.hid (HW.out.trans (hb2.mono HW.out.size)); clear hb2)
        | (go_at_call 17; (with_reducible refine (bookof_false last lo n lc l _ HH.out.2.2.1 (HH.out.2.2.2.1.below H2.out) hn6 HV.out).mono ?_); rintro e3 w3 ⟨rfl, hb3⟩; have H3 := Lib.hid (H2.out.trans (hb3.mono H2.out.size)); clear hb3))
      go_ret
      exact ⟨rfl, H3.out⟩
theorem in_u64 {P : Program} {w : World} {r : Reach} {base : Nat} {t : TypeId} {v : Value} (hu : P.underlying t = some (.int .u64)) (hk : Value.okWide P w r base t v) (h : Rd P w t v.cells.toList) :
    ∃ n : Nat, v = .int .u64 (n : Int) ∧ n < 18446744073709551616 := by
  obtain ⟨n, rfl, h1⟩ := in_int hu hk h
  simp [IntKind.min, IntKind.max, IntKind.signed, IntKind.bits] at h1
  exact ⟨n.toNat, by congr 1; omega, by omega⟩
theorem leasePlays_in (W : World) (base : Nat) (v0 v1 v2 : Value) (k0 : Value.okWide Try.prog W .any base 28 v0) (k1 : Value.okWide Try.prog W .any base 43 v1) (k2 : Value.okWide Try.prog W .any base 38 v2) (r0 : Rd Try.prog W 28 v0.cells.toList) (r1 : Rd Try.prog W 43 v1.cells.toList) (r2 : Rd Try.prog W 38 v2.cells.toList) :
    Calls Try.prog 6 #[v0, v1, v2] W fun e w' => e = .returned (.bool true) ∧ Below W.heap.size W w' := by
  obtain ⟨last, rfl, hlast⟩ := in_u64 Try.underlying28 k0 r0
  obtain ⟨lo, l, lc, rfl, h1, h2, h3⟩ := in_slice Try.underlying43 (size := 3) (by kernel_rfl) (by decide) SessIs (fun es h => sess_rd h) k1 r1
  obtain ⟨po, ps, d, rfl, h4, h5, h6⟩ := in_slice Try.underlying38 (size := 4) (by kernel_rfl) (by decide) ActIs (fun es h => act_rd h) k2 r2
  refine leasePlays_any last lo _ lc l po _ d ps W hlast rfl (row_sess h1) (fun e he => ?_) rfl h4 (Nat.le_trans h5 h6)
  obtain ⟨i, hi, rfl⟩ := List.getElem_of_mem he
  obtain ⟨b, off, rfl, h7⟩ := h1 (by omega)
  obtain ⟨_, _, ⟨_, _, _, h8⟩, _⟩ := h7 i hi
  exact h8
end Go.Proofs.Ytgcldmmhfleggaa
