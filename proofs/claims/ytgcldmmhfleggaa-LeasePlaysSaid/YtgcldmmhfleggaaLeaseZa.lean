/-
  LAYER 7: a book of a given list: lease.New.
-/
import Derived.Test.YtgcldmmhfleggaaLeaseU
namespace Go.Proofs.Ytgcldmmhfleggaa
open Go Go.RowKit

theorem clone_row (ao : Option Addr) (n c : Nat) (l : List Sess) (w : World) (h : Row w ao (l.flatMap Sess.cells)) (hl : l.length = n) (hn : n ≤ 1000000) :
    Calls Try.prog 24 #[.slice ao n c] w fun e w' => ∃ xo xc, e = .returned (.slice xo n xc) ∧ Below w.heap.size w w' ∧ Own w' 3 xo n xc (l.flatMap Sess.cells) ∧ ∀ a, xo = some a → w.heap.size ≤ a.block := by
  cases ao with
  | none =>
    have h0 : l = [] := by
      cases l with
      | nil => rfl
      | cons e l =>
        obtain ⟨_, _, h1, _⟩ := h (by simp [Sess.cells])
        cases h1
    subst h0
    obtain rfl : n = 0 := hl.symm
    refine (clone_nil c w).mono ?_
    rintro e w' ⟨rfl, rfl⟩
    exact ⟨none, 0, rfl, Below.refl _ _, Own.nil' _ _, fun _ h => (nomatch h)⟩
  | some a =>
    have q := Lib.run_eql_slice_nil (P := Try.prog) w 43 48 (some a) n c 0 0 Try.underlying43
    have HC := Lib.hid (And.intro h (show (l.flatMap Sess.cells).length = n * 3 by rw [fl_len el_e, hl]))
    clear h hl
    go_enter Try.func24, Try.ntmps24
    go_wp2_with (at_builtin; refine wpList_append' rfl (.tmp 5) (.tmp 6) el_s rfl rfl rfl (Own.alloc0 _ 3 _ _) HC.out.2 (HC.out.1.below ((Below.refl _ w).alloc (Nat.le_refl _) _)) (fl_one el_e l) (by unfold maxLen; omega) (by omega) ?_; intro xo xc w2 hx hch _ hx2; simp only [Nat.zero_add, List.nil_append] at hx; have H2 := Lib.hid (And.intro (chg_new (Below.refl _ _) hch) (And.intro hx (new_blk (Below.refl _ w) hx2))); clear hx hch hx2)
    go_ret
    exact ⟨xo, xc, rfl, H2.out⟩
set_option maxHeartbeats 8000000 in
set_option maxRecDepth 100000 in
theorem new_ok (last : Nat) (ao : Option Addr) (n c : Nat) (l : List Sess) (w : World) (hn : l.length = n) (hr : Row w ao (l.flatMap Sess.cells)) (hm : n ≤ 16) (hg : ∀ k, k < n → ∀ e, l[k]? = some e → Good last l k e) :
    Calls Try.prog 9 #[.int .u64 (last : Int), .slice ao n c] w fun e w' => ∃ p F, e = .returned (.tuple #[.pointer (some ⟨p, 0, none⟩), .bool true]) ∧ Below w.heap.size w w' ∧ BookAt w' p last l F ∧ ∀ k ∈ F, w.heap.size ≤ k := by
  have HX := Lib.hid (And.intro hn (And.intro hr hg))
  have h16 : ¬ (16 : Int) < (n : Int) := by omega
  clear hn hr hg
  go_enter Try.func9, Try.ntmps9
  go_wp2
  go_loopg [13] n (fun g v wr => ∃ k : Nat, g + k = n ∧ v = .int .i64 k ∧ Below w.heap.size w wr)
  case atStart => exact ⟨0, by omega, rfl, Below.refl _ _⟩
  case round =>
    obtain ⟨k, hgk, rfl, hb⟩ := hrel
    have hrw := HX.out.2.1.below hb
    have HB := Lib.hid hb
    clear hb
    by_cases hk : k < n
    · obtain ⟨e, he⟩ : ∃ e, l[k]? = some e := ⟨_, List.getElem?_eq_getElem (by rw [HX.out.1]; omega)⟩
      obtain ⟨g1, g2, g3, g4, g5⟩ := HX.out.2.2 k hk e he
      obtain ⟨b, off, rfl, c0, c1, c2⟩ := row_at hrw he
      obtain ⟨u0, u1, u2, u3⟩ := cells3 (heap_top wr (.cells #[.int .u64 (e.id : Int), .int .u64 (e.ends : Int), .int .u64 (e.life : Int)] 48))
      have i0 : ((e.id : Int) == 0) = false := by simp; omega
      have i1 : decide ((last : Int) < (e.id : Int)) = false := decide_eq_false (by omega)
      have i2 : decide ((e.life : Int) < 1) = false := decide_eq_false (by omega)
      have i3 : decide ((1099511627776 : Int) < (e.life : Int)) = false := decide_eq_false (by omega)
      clear g1 g2 g3 g4 he
      rcases g5 with rfl | ⟨q, d, rfl, hd, hlt⟩
      · clear hrw
        simp only [Nat.zero_mul, Nat.add_zero] at c0 c1 c2
        generalize (last : Int) = LA at *
        generalize (e.id : Int) = E at *
        generalize (e.life : Int) = LF at *
        try generalize (d.id : Int) = D at *
        go_wp2
        go_quiet (fail)
        go_wp2
        go_roundg (gk - 1)
        case measure => omega
        case rel => exact ⟨1, by omega, by go_num, bdrew (HB.out.alloc HB.out.size _) _⟩
      · obtain ⟨b', off', hab, d0, d1, d2⟩ := row_at hrw hd
        cases hab
        have dd0 := alloc_cell (o := (.cells #[.int .u64 (e.id : Int), .int .u64 (e.ends : Int), .int .u64 (e.life : Int)] 48)) d0
        have j0 : (0 : Int) < ((q + 1 : Nat) : Int) := by omega
        have j1 := IntWalk.i64_in (((q + 1 : Nat) : Int) - 1) (by omega)
        have j2 : (((q + 1 : Nat) : Int) - 1).toNat = q := by omega
        have j3 : ((q + 1 : Nat) : Int) - 1 = (q : Int) := by omega
        have j4 : decide ((e.id : Int) ≤ (d.id : Int)) = false := decide_eq_false (by omega)
        have j5 : q < n := by omega
        clear hrw hd
        generalize (last : Int) = LA at *
        generalize (e.id : Int) = E at *
        generalize (e.life : Int) = LF at *
        try generalize (d.id : Int) = D at *
        go_wp2
        go_quiet (fail)
        go_wp2
        go_roundg (gk - 1)
        case measure => omega
        case rel => exact ⟨q + 1 + 1, by omega, by go_num, bdrew (HB.out.alloc HB.out.size _) _⟩
    · obtain rfl : k = n := by omega
      have HCL := Lib.hid (clone_row ao k c l wr hrw HX.out.1 (by omega))
      clear hrw
      go_wp2_with (go_at_call 24; (with_reducible refine HCL.out.mono ?_); rintro e1 w2 ⟨xo, xc, rfl, hb2, hx, hnw⟩; have H2 := Lib.hid (And.intro hx (And.intro (HB.out.trans (hb2.mono HB.out.size)) (fun a ha => Nat.le_trans HB.out.size (hnw a ha)))); clear hb2 hx hnw)
      go_ret2
      obtain ⟨hx, hb2, hnw⟩ := H2.out
      refine ⟨w2.heap.size, w2.heap.size :: blk xo, rfl, hb2.alloc hb2.size _, ⟨xo, k, xc, heap_top _ _, hx.keep ((Chg.refl (fun _ => False) w2).alloc _) (fun _ _ h => h), fun h => ?_, rfl⟩, fun j hj => ?_⟩
      · obtain ⟨a, ha, e⟩ := mem_blk.1 h
        have := (hx.at_ a ha).2.1
        omega
      · rcases List.mem_cons.1 hj with rfl | hj
        · exact hb2.size
        · obtain ⟨a, ha, rfl⟩ := mem_blk.1 hj
          exact hnw a ha
set_option maxHeartbeats 8000000 in
set_option maxRecDepth 100000 in
theorem new_bad (last : Nat) (ao : Option Addr) (n c K : Nat) (l : List Sess) (w : World) (hn : l.length = n) (hr : Row w ao (l.flatMap Sess.cells)) (hm : n ≤ 16) (hg : ∀ k, k < K → ∀ e, l[k]? = some e → Good last l k e) (hbad : ∃ e, l[K]? = some e ∧ ¬ Good last l K e) :
    Calls Try.prog 9 #[.int .u64 (last : Int), .slice ao n c] w fun e w' => e = .returned (.tuple #[.pointer none, .bool false]) ∧ Below w.heap.size w w' := by
  have hKn : K < n := by obtain ⟨e, he, _⟩ := hbad; have := (List.getElem?_eq_some_iff.1 he).1; omega
  have HK := Lib.hid hbad
  have HX := Lib.hid (And.intro hn (And.intro hr hg))
  have h16 : ¬ (16 : Int) < (n : Int) := by omega
  clear hn hr hg hbad
  go_enter Try.func9, Try.ntmps9
  go_wp2
  go_loopg [13] K (fun g v wr => ∃ k : Nat, g + k = K ∧ v = .int .i64 k ∧ Below w.heap.size w wr)
  case atStart => exact ⟨0, by omega, rfl, Below.refl _ _⟩
  case round =>
    obtain ⟨k, hgk, rfl, hb⟩ := hrel
    have hrw := HX.out.2.1.below hb
    have HB := Lib.hid hb
    clear hb
    by_cases hk : k < K
    · obtain ⟨e, he⟩ : ∃ e, l[k]? = some e := ⟨_, List.getElem?_eq_getElem (by rw [HX.out.1]; omega)⟩
      obtain ⟨g1, g2, g3, g4, g5⟩ := HX.out.2.2 k hk e he
      obtain ⟨b, off, rfl, c0, c1, c2⟩ := row_at hrw he
      obtain ⟨u0, u1, u2, u3⟩ := cells3 (heap_top wr (.cells #[.int .u64 (e.id : Int), .int .u64 (e.ends : Int), .int .u64 (e.life : Int)] 48))
      have i0 : ((e.id : Int) == 0) = false := by simp; omega
      have i1 : decide ((last : Int) < (e.id : Int)) = false := decide_eq_false (by omega)
      have i2 : decide ((e.life : Int) < 1) = false := decide_eq_false (by omega)
      have i3 : decide ((1099511627776 : Int) < (e.life : Int)) = false := decide_eq_false (by omega)
      have hkn : k < n := by have := HX.out.1; omega
      clear g1 g2 g3 g4 he
      rcases g5 with rfl | ⟨q, d, rfl, hd, hlt⟩
      · clear hrw
        simp only [Nat.zero_mul, Nat.add_zero] at c0 c1 c2
        generalize (last : Int) = LA at *
        generalize (e.id : Int) = E at *
        generalize (e.life : Int) = LF at *
        try generalize (d.id : Int) = D at *
        go_wp2
        go_quiet (fail)
        go_wp2
        go_roundg (gk - 1)
        case measure => omega
        case rel => exact ⟨1, by omega, by go_num, bdrew (HB.out.alloc HB.out.size _) _⟩
      · obtain ⟨b', off', hab, d0, d1, d2⟩ := row_at hrw hd
        cases hab
        have dd0 := alloc_cell (o := (.cells #[.int .u64 (e.id : Int), .int .u64 (e.ends : Int), .int .u64 (e.life : Int)] 48)) d0
        have j0 : (0 : Int) < ((q + 1 : Nat) : Int) := by omega
        have j1 := IntWalk.i64_in (((q + 1 : Nat) : Int) - 1) (by omega)
        have j2 : (((q + 1 : Nat) : Int) - 1).toNat = q := by omega
        have j3 : ((q + 1 : Nat) : Int) - 1 = (q : Int) := by omega
        have j4 : decide ((e.id : Int) ≤ (d.id : Int)) = false := decide_eq_false (by omega)
        have j5 : q < n := by omega
        clear hrw hd
        generalize (last : Int) = LA at *
        generalize (e.id : Int) = E at *
        generalize (e.life : Int) = LF at *
        try generalize (d.id : Int) = D at *
        go_wp2
        go_quiet (fail)
        go_wp2
        go_roundg (gk - 1)
        case measure => omega
        case rel => exact ⟨q + 1 + 1, by omega, by go_num, bdrew (HB.out.alloc HB.out.size _) _⟩
    · obtain rfl : k = K := by omega
      obtain ⟨e, he, hbad⟩ := HK.out
      have hkn : k < n := by have := (List.getElem?_eq_some_iff.1 he).1; have := HX.out.1; omega
      obtain ⟨b, off, rfl, c0, c1, c2⟩ := row_at hrw he
      obtain ⟨u0, u1, u2, u3⟩ := cells3 (heap_top wr (.cells #[.int .u64 (e.id : Int), .int .u64 (e.ends : Int), .int .u64 (e.life : Int)] 48))
      rcases bad_why (by have := HX.out.1; omega) hbad with h | ⟨h1, h⟩ | ⟨h1, h2, h⟩ | ⟨h1, h2, h3, h⟩ | ⟨h1, h2, h3, h4, q, d, rfl, hd, h⟩
      · have i0 : ((e.id : Int) == 0) = true := by simp; omega
        clear h he hbad hrw
        generalize (last : Int) = LA at *
        generalize (e.id : Int) = E at *
        generalize (e.life : Int) = LF at *
        try generalize (d.id : Int) = D at *
        go_wp2
        go_quiet (fail)
        go_wp2
        go_ret2
        exact ⟨rfl, bdrew (HB.out.alloc HB.out.size _) _⟩
      · have i0 : ((e.id : Int) == 0) = false := by simp; omega
        have i1 : (last : Int) < (e.id : Int) := by omega
        clear h h1 he hbad hrw
        generalize (last : Int) = LA at *
        generalize (e.id : Int) = E at *
        generalize (e.life : Int) = LF at *
        try generalize (d.id : Int) = D at *
        go_wp2
        go_quiet (fail)
        go_wp2
        go_ret2
        exact ⟨rfl, bdrew (HB.out.alloc HB.out.size _) _⟩
      · have i0 : ((e.id : Int) == 0) = false := by simp; omega
        have i1 : decide ((last : Int) < (e.id : Int)) = false := decide_eq_false (by omega)
        have i2 : (e.life : Int) < 1 := by omega
        clear h h1 h2 he hbad hrw
        generalize (last : Int) = LA at *
        generalize (e.id : Int) = E at *
        generalize (e.life : Int) = LF at *
        try generalize (d.id : Int) = D at *
        go_wp2
        go_quiet (fail)
        go_wp2
        go_ret2
        exact ⟨rfl, bdrew (HB.out.alloc HB.out.size _) _⟩
      · have i0 : ((e.id : Int) == 0) = false := by simp; omega
        have i1 : decide ((last : Int) < (e.id : Int)) = false := decide_eq_false (by omega)
        have i2 : decide ((e.life : Int) < 1) = false := decide_eq_false (by omega)
        have i3 : 1099511627776 < (e.life : Int) := by omega
        clear h h1 h2 h3 he hbad hrw
        generalize (last : Int) = LA at *
        generalize (e.id : Int) = E at *
        generalize (e.life : Int) = LF at *
        try generalize (d.id : Int) = D at *
        go_wp2
        go_quiet (fail)
        go_wp2
        go_ret2
        exact ⟨rfl, bdrew (HB.out.alloc HB.out.size _) _⟩
      · obtain ⟨b', off', hab, d0, d1, d2⟩ := row_at hrw hd
        cases hab
        have dd0 := alloc_cell (o := (.cells #[.int .u64 (e.id : Int), .int .u64 (e.ends : Int), .int .u64 (e.life : Int)] 48)) d0
        have i0 : ((e.id : Int) == 0) = false := by simp; omega
        have i1 : decide ((last : Int) < (e.id : Int)) = false := decide_eq_false (by omega)
        have i2 : decide ((e.life : Int) < 1) = false := decide_eq_false (by omega)
        have i3 : decide ((1099511627776 : Int) < (e.life : Int)) = false := decide_eq_false (by omega)
        have j0 : (0 : Int) < ((q + 1 : Nat) : Int) := by omega
        have j1 := IntWalk.i64_in (((q + 1 : Nat) : Int) - 1) (by omega)
        have j2 : (((q + 1 : Nat) : Int) - 1).toNat = q := by omega
        have j3 : ((q + 1 : Nat) : Int) - 1 = (q : Int) := by omega
        have j4 : (e.id : Int) ≤ (d.id : Int) := by omega
        have j5 : q < n := by omega
        clear h h1 h2 h3 h4 he hbad hrw hd
        generalize (last : Int) = LA at *
        generalize (e.id : Int) = E at *
        generalize (e.life : Int) = LF at *
        try generalize (d.id : Int) = D at *
        go_wp2
        go_quiet (fail)
        go_wp2
        go_ret2
        exact ⟨rfl, bdrew (HB.out.alloc HB.out.size _) _⟩
end Go.Proofs.Ytgcldmmhfleggaa
