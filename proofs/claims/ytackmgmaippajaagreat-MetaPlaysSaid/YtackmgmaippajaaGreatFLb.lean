/-
  JOINED BY fam.py out of: LeaseZa, LeaseZb.
-/
import Derived.Test.YtackmgmaippajaaGreatFLa
import Derived.Test.YtackmgmaippajaaGreatFLa
-- part LeaseZa
namespace Go.Proofs.YtackmgmaippajaaGreat.Ls
set_option maxRecDepth 100000
open Go Go.RowKit

theorem clone_row (ao : Option Addr) (n c : Nat) (l : List Sess) (w : World) (h : Row w ao (l.flatMap Sess.cells)) (hl : l.length = n) (hn : n ≤ 1000000) :
    Calls Tryz.prog 105 #[.slice ao n c] w fun e w' => ∃ xo xc, e = .returned (.slice xo n xc) ∧ Below w.heap.size w w' ∧ Own w' 3 xo n xc (l.flatMap Sess.cells) ∧ ∀ a, xo = some a → w.heap.size ≤ a.block := by
  cases ao with
  | none =>
    have h0 : l = [] := by
      cases l with
      | nil => rfl
      | cons e l =>
        obtain ⟨_, _, h1, _⟩ := h (by simp [Sess.cells])
        cases h1
    subst h0
    obtain rfl : n = 0 := hl.symm
    refine (clone_nil c w).mono ?_
    rintro e w' ⟨rfl, rfl⟩
    exact ⟨none, 0, rfl, Below.refl _ _, Own.nil' _ _, fun _ h => (nomatch h)⟩
  | some a =>
    have q := Lib.run_eql_slice_nil (P := Tryz.prog) w 32 96 (some a) n c 0 0 Tryz.underlying32
    have HC := Lib.hid (And.intro h (show (l.flatMap Sess.cells).length = n * 3 by rw [fl_len el_e, hl]))
    clear h hl
    go_enter Tryz.func105, Tryz.ntmps105
    go_wp2_with (at_builtin; refine wpList_append' rfl (.tmp 5) (.tmp 6) el_s rfl rfl rfl (Own.alloc0 _ 3 _ _) HC.out.2 (HC.out.1.below ((Below.refl _ w).alloc (Nat.le_refl _) _)) (fl_one el_e l) (by unfold maxLen; omega) (by omega) ?_; intro xo xc w2 hx hch _ hx2; simp only [Nat.zero_add, List.nil_append] at hx; have H2 := Lib.hid (And.intro (chg_new (Below.refl _ _) hch) (And.intro hx (new_blk (Below.refl _ w) hx2))); clear hx hch hx2)
    go_ret
    exact ⟨xo, xc, rfl, H2.out⟩
set_option maxHeartbeats 8000000 in
set_option maxRecDepth 100000 in
theorem new_ok (last : Nat) (ao : Option Addr) (n c : Nat) (l : List Sess) (w : World) (hn : l.length = n) (hr : Row w ao (l.flatMap Sess.cells)) (hm : n ≤ 16) (hg : ∀ k, k < n → ∀ e, l[k]? = some e → Good last l k e) :
    Calls Tryz.prog 66 #[.int .u64 (last : Int), .slice ao n c] w fun e w' => ∃ p F, e = .returned (.tuple #[.pointer (some ⟨p, 0, none⟩), .bool true]) ∧ Below w.heap.size w w' ∧ BookAt w' p last l F ∧ ∀ k ∈ F, w.heap.size ≤ k := by
  have HX := Lib.hid (And.intro hn (And.intro hr hg))
  have h16 : ¬ (16 : Int) < (n : Int) := by omega
  clear hn hr hg
  go_enter Tryz.func66, Tryz.ntmps66
  go_wp2
  go_loopg [13] n (fun g v wr => ∃ k : Nat, g + k = n ∧ v = .int .i64 k ∧ Below w.heap.size w wr)
  case atStart => exact ⟨0, by omega, rfl, Below.refl _ _⟩
  case round =>
    obtain ⟨k, hgk, rfl, hb⟩ := hrel
    have hrw := HX.out.2.1.below hb
    have HB := Lib.hid hb
    clear hb
    by_cases hk : k < n
    · obtain ⟨e, he⟩ : ∃ e, l[k]? = some e := ⟨_, List.getElem?_eq_getElem (by rw [HX.out.1]; omega)⟩
      obtain ⟨g1, g2, g3, g4, g5⟩ := HX.out.2.2 k hk e he
      obtain ⟨b, off, rfl, c0, c1, c2⟩ := row_at hrw he
      obtain ⟨u0, u1, u2, u3⟩ := cells3 (heap_top wr (.cells #[.int .u64 (e.id : Int), .int .u64 (e.ends : Int), .int .u64 (e.life : Int)] 96))
      have i0 : ((e.id : Int) == 0) = false := by simp; omega
      have i1 : decide ((last : Int) < (e.id : Int)) = false := decide_eq_false (by omega)
      have i2 : decide ((e.life : Int) < 1) = false := decide_eq_false (by omega)
      have i3 : decide ((1099511627776 : Int) < (e.life : Int)) = false := decide_eq_false (by omega)
      clear g1 g2 g3 g4 he
      rcases g5 with rfl | ⟨q, d, rfl, hd, hlt⟩
      · clear hrw
        simp only [Nat.zero_mul, Nat.add_zero] at c0 c1 c2
        generalize (last : Int) = LA at *
        generalize (e.id : Int) = E at *
        generalize (e.life : Int) = LF at *
        try generalize (d.id : Int) = D at *
        go_wp2
        go_quiet (fail)
        go_wp2
        go_roundg (gk - 1)
        case measure => omega
        case rel => exact ⟨1, by omega, by go_num, bdrew (HB.out.alloc HB.out.size _) _⟩
      · obtain ⟨b', off', hab, d0, d1, d2⟩ := row_at hrw hd
        cases hab
        have dd0 := alloc_cell (o := (.cells #[.int .u64 (e.id : Int), .int .u64 (e.ends : Int), .int .u64 (e.life : Int)] 96)) d0
        have j0 : (0 : Int) < ((q + 1 : Nat) : Int) := by omega
        have j1 := IntWalk.i64_in (((q + 1 : Nat) : Int) - 1) (by omega)
        have j2 : (((q + 1 : Nat) : Int) - 1).toNat = q := by omega
        have j3 : ((q + 1 : Nat) : Int) - 1 = (q : Int) := by omega
        have j4 : decide ((e.id : Int) ≤ (d.id : Int)) = false := decide_eq_false (by omega)
        have j5 : q < n := by omega
        clear hrw hd
        generalize (last : Int) = LA at *
        generalize (e.id : Int) = E at *
        generalize (e.life : Int) = LF at *
        try generalize (d.id : Int) = D at *
        go_wp2
        go_quiet (fail)
        go_wp2
        go_roundg (gk - 1)
        case measure => omega
        case rel => exact ⟨q + 1 + 1, by omega, by go_num, bdrew (HB.out.alloc HB.out.size _) _⟩
    · obtain rfl : k = n := by omega
      have HCL := Lib.hid (clone_row ao k c l wr hrw HX.out.1 (by omega))
      clear hrw
      go_wp2_with (go_at_call 105; (with_reducible refine HCL.out.mono ?_); rintro e1 w2 ⟨xo, xc, rfl, hb2, hx, hnw⟩; have H2 := Lib.hid (And.intro hx (And.intro (HB.out.trans (hb2.mono HB.out.size)) (fun a ha => Nat.le_trans HB.out.size (hnw a ha)))); clear hb2 hx hnw)
      go_ret2
      obtain ⟨hx, hb2, hnw⟩ := H2.out
      refine ⟨w2.heap.size, w2.heap.size :: blk xo, rfl, hb2.alloc hb2.size _, ⟨xo, k, xc, heap_top _ _, hx.keep ((Chg.refl (fun _ => False) w2).alloc _) (fun _ _ h => h), fun h => ?_, rfl⟩, fun j hj => ?_⟩
      · obtain ⟨a, ha, e⟩ := mem_blk.1 h
        have := (hx.at_ a ha).2.1
        omega
      · rcases List.mem_cons.1 hj with rfl | hj
        · exact hb2.size
        · obtain ⟨a, ha, rfl⟩ := mem_blk.1 hj
          exact hnw a ha
set_option maxHeartbeats 8000000 in
set_option maxRecDepth 100000 in
theorem new_bad (last : Nat) (ao : Option Addr) (n c K : Nat) (l : List Sess) (w : World) (hn : l.length = n) (hr : Row w ao (l.flatMap Sess.cells)) (hm : n ≤ 16) (hg : ∀ k, k < K → ∀ e, l[k]? = some e → Good last l k e) (hbad : ∃ e, l[K]? = some e ∧ ¬ Good last l K e) :
    Calls Tryz.prog 66 #[.int .u64 (last : Int), .slice ao n c] w fun e w' => e = .returned (.tuple #[.pointer none, .bool false]) ∧ Below w.heap.size w w' := by
  have hKn : K < n := by obtain ⟨e, he, _⟩ := hbad; have := (List.getElem?_eq_some_iff.1 he).1; omega
  have HK := Lib.hid hbad
  have HX := Lib.hid (And.intro hn (And.intro hr hg))
  have h16 : ¬ (16 : Int) < (n : Int) := by omega
  clear hn hr hg hbad
  go_enter Tryz.func66, Tryz.ntmps66
  go_wp2
  go_loopg [13] K (fun g v wr => ∃ k : Nat, g + k = K ∧ v = .int .i64 k ∧ Below w.heap.size w wr)
  case atStart => exact ⟨0, by omega, rfl, Below.refl _ _⟩
  case round =>
    obtain ⟨k, hgk, rfl, hb⟩ := hrel
    have hrw := HX.out.2.1.below hb
    have HB := Lib.hid hb
    clear hb
    by_cases hk : k < K
    · obtain ⟨e, he⟩ : ∃ e, l[k]? = some e := ⟨_, List.getElem?_eq_getElem (by rw [HX.out.1]; omega)⟩
      obtain ⟨g1, g2, g3, g4, g5⟩ := HX.out.2.2 k hk e he
      obtain ⟨b, off, rfl, c0, c1, c2⟩ := row_at hrw he
      obtain ⟨u0, u1, u2, u3⟩ := cells3 (heap_top wr (.cells #[.int .u64 (e.id : Int), .int .u64 (e.ends : Int), .int .u64 (e.life : Int)] 96))
      have i0 : ((e.id : Int) == 0) = false := by simp; omega
      have i1 : decide ((last : Int) < (e.id : Int)) = false := decide_eq_false (by omega)
      have i2 : decide ((e.life : Int) < 1) = false := decide_eq_false (by omega)
      have i3 : decide ((1099511627776 : Int) < (e.life : Int)) = false := decide_eq_false (by omega)
      have hkn : k < n := by have := HX.out.1; omega
      clear g1 g2 g3 g4 he
      rcases g5 with rfl | ⟨q, d, rfl, hd, hlt⟩
      · clear hrw
        simp only [Nat.zero_mul, Nat.add_zero] at c0 c1 c2
        generalize (last : Int) = LA at *
        generalize (e.id : Int) = E at *
        generalize (e.life : Int) = LF at *
        try generalize (d.id : Int) = D at *
        go_wp2
        go_quiet (fail)
        go_wp2
        go_roundg (gk - 1)
        case measure => omega
        case rel => exact ⟨1, by omega, by go_num, bdrew (HB.out.alloc HB.out.size _) _⟩
      · obtain ⟨b', off', hab, d0, d1, d2⟩ := row_at hrw hd
        cases hab
        have dd0 := alloc_cell (o := (.cells #[.int .u64 (e.id : Int), .int .u64 (e.ends : Int), .int .u64 (e.life : Int)] 96)) d0
        have j0 : (0 : Int) < ((q + 1 : Nat) : Int) := by omega
        have j1 := IntWalk.i64_in (((q + 1 : Nat) : Int) - 1) (by omega)
        have j2 : (((q + 1 : Nat) : Int) - 1).toNat = q := by omega
        have j3 : ((q + 1 : Nat) : Int) - 1 = (q : Int) := by omega
        have j4 : decide ((e.id : Int) ≤ (d.id : Int)) = false := decide_eq_false (by omega)
        have j5 : q < n := by omega
        clear hrw hd
        generalize (last : Int) = LA at *
        generalize (e.id : Int) = E at *
        generalize (e.life : Int) = LF at *
        try generalize (d.id : Int) = D at *
        go_wp2
        go_quiet (fail)
        go_wp2
        go_roundg (gk - 1)
        case measure => omega
        case rel => exact ⟨q + 1 + 1, by omega, by go_num, bdrew (HB.out.alloc HB.out.size _) _⟩
    · obtain rfl : k = K := by omega
      obtain ⟨e, he, hbad⟩ := HK.out
      have hkn : k < n := by have := (List.getElem?_eq_some_iff.1 he).1; have := HX.out.1; omega
      obtain ⟨b, off, rfl, c0, c1, c2⟩ := row_at hrw he
      obtain ⟨u0, u1, u2, u3⟩ := cells3 (heap_top wr (.cells #[.int .u64 (e.id : Int), .int .u64 (e.ends : Int), .int .u64 (e.life : Int)] 96))
      rcases bad_why (by have := HX.out.1; omega) hbad with h | ⟨h1, h⟩ | ⟨h1, h2, h⟩ | ⟨h1, h2, h3, h⟩ | ⟨h1, h2, h3, h4, q, d, rfl, hd, h⟩
      · have i0 : ((e.id : Int) == 0) = true := by simp; omega
        clear h he hbad hrw
        generalize (last : Int) = LA at *
        generalize (e.id : Int) = E at *
        generalize (e.life : Int) = LF at *
        try generalize (d.id : Int) = D at *
        go_wp2
        go_quiet (fail)
        go_wp2
        go_ret2
        exact ⟨rfl, bdrew (HB.out.alloc HB.out.size _) _⟩
      · have i0 : ((e.id : Int) == 0) = false := by simp; omega
        have i1 : (last : Int) < (e.id : Int) := by omega
        clear h h1 he hbad hrw
        generalize (last : Int) = LA at *
        generalize (e.id : Int) = E at *
        generalize (e.life : Int) = LF at *
        try generalize (d.id : Int) = D at *
        go_wp2
        go_quiet (fail)
        go_wp2
        go_ret2
        exact ⟨rfl, bdrew (HB.out.alloc HB.out.size _) _⟩
      · have i0 : ((e.id : Int) == 0) = false := by simp; omega
        have i1 : decide ((last : Int) < (e.id : Int)) = false := decide_eq_false (by omega)
        have i2 : (e.life : Int) < 1 := by omega
        clear h h1 h2 he hbad hrw
        generalize (last : Int) = LA at *
        generalize (e.id : Int) = E at *
        generalize (e.life : Int) = LF at *
        try generalize (d.id : Int) = D at *
        go_wp2
        go_quiet (fail)
        go_wp2
        go_ret2
        exact ⟨rfl, bdrew (HB.out.alloc HB.out.size _) _⟩
      · have i0 : ((e.id : Int) == 0) = false := by simp; omega
        have i1 : decide ((last : Int) < (e.id : Int)) = false := decide_eq_false (by omega)
        have i2 : decide ((e.life : Int) < 1) = false := decide_eq_false (by omega)
        have i3 : 1099511627776 < (e.life : Int) := by omega
        clear h h1 h2 h3 he hbad hrw
        generalize (last : Int) = LA at *
        generalize (e.id : Int) = E at *
        generalize (e.life : Int) = LF at *
        try generalize (d.id : Int) = D at *
        go_wp2
        go_quiet (fail)
        go_wp2
        go_ret2
        exact ⟨rfl, bdrew (HB.out.alloc HB.out.size _) _⟩
      · obtain ⟨b', off', hab, d0, d1, d2⟩ := row_at hrw hd
        cases hab
        have dd0 := alloc_cell (o := (.cells #[.int .u64 (e.id : Int), .int .u64 (e.ends : Int), .int .u64 (e.life : Int)] 96)) d0
        have i0 : ((e.id : Int) == 0) = false := by simp; omega
        have i1 : decide ((last : Int) < (e.id : Int)) = false := decide_eq_false (by omega)
        have i2 : decide ((e.life : Int) < 1) = false := decide_eq_false (by omega)
        have i3 : decide ((1099511627776 : Int) < (e.life : Int)) = false := decide_eq_false (by omega)
        have j0 : (0 : Int) < ((q + 1 : Nat) : Int) := by omega
        have j1 := IntWalk.i64_in (((q + 1 : Nat) : Int) - 1) (by omega)
        have j2 : (((q + 1 : Nat) : Int) - 1).toNat = q := by omega
        have j3 : ((q + 1 : Nat) : Int) - 1 = (q : Int) := by omega
        have j4 : (e.id : Int) ≤ (d.id : Int) := by omega
        have j5 : q < n := by omega
        clear h h1 h2 h3 h4 he hbad hrw hd
        generalize (last : Int) = LA at *
        generalize (e.id : Int) = E at *
        generalize (e.life : Int) = LF at *
        try generalize (d.id : Int) = D at *
        go_wp2
        go_quiet (fail)
        go_wp2
        go_ret2
        exact ⟨rfl, bdrew (HB.out.alloc HB.out.size _) _⟩
end Go.Proofs.YtackmgmaippajaaGreat.Ls
-- part LeaseZb
namespace Go.Proofs.YtackmgmaippajaaGreat.Ls
set_option maxRecDepth 100000
open Go Go.RowKit

set_option maxHeartbeats 1000000 in
theorem all_any (p last : Nat) (l : List Sess) (F : List Nat) (w : World) (h : BookAt w p last l F) (hl : l.length ≤ 1000000) :
    Calls Tryz.prog 78 #[.pointer (some ⟨p, 0, none⟩)] w fun e w' => ∃ xo xc, e = .returned (.tuple #[.int .u64 (last : Int), .slice xo l.length xc]) ∧ Below w.heap.size w w' ∧ Own w' 3 xo l.length xc (l.flatMap Sess.cells) := by
  obtain ⟨lo, n, cap, h1, h2, h3, hF⟩ := h
  have hn := fl_own_len el_e h2
  subst hn
  obtain ⟨z0, z1, z2⟩ := cells2 h1
  have d0 : w.drew.cell? ⟨p, 0, none⟩ = some (.int .u64 (last : Int)) := z0
  have d1 : w.drew.cell? ⟨p, 1, none⟩ = some (.slice lo l.length cap) := z1
  have HCL := Lib.hid (clone_row lo l.length cap l w.drew h2.drew.row rfl (by omega))
  have HX := Lib.hid h1
  clear h1 h2 h3 hF
  generalize l.length = n at *
  go_enter Tryz.func78, Tryz.ntmps78
  go_wp2
  go_region_with (go_at_call 105; (with_reducible refine HCL.out.mono ?_); rintro e1 w1 ⟨xo, xc, rfl, hb, ho, _⟩; obtain ⟨y0, y1, y2⟩ := cells2 ((Chg.of_below hb (fun _ => False)).heap (w := w.drew) HX.out (fun h => h)); have H1 := Lib.hid (And.intro hb ho); clear hb ho)
  all_goals go_wp2
  all_goals (
    go_ret2
    exact ⟨xo, xc, rfl, (Below.refl _ w).drew.trans H1.out.1, H1.out.2⟩)
def openL (last : Nat) (l : List Sess) (now life : Nat) : (Nat × Int) × (Nat × List Sess) :=
  if life = 0 ∨ 1099511627776 < life then ((0, 63), (last, l))
  else if l.length < 16 ∧ last < 18446744073709551615 then ((last + 1, 0), (last + 1, l ++ [⟨last + 1, endsOf now life, life⟩]))
  else ((0, 14), (last, l))
theorem open_all (p last now life : Nat) (l : List Sess) (F : List Nat) (w : World) (h : BookAt w p last l F) (hlast : last < 18446744073709551616) (hnow : now < 18446744073709551616) :
    Calls Tryz.prog 82 #[.pointer (some ⟨p, 0, none⟩), .int .u64 (now : Int), .int .u64 (life : Int)] w fun e w' => e = .returned (.tuple #[.int .u64 ((openL last l now life).1.1 : Int), .int .i64 (openL last l now life).1.2]) ∧ Wrote w w' p (openL last l now life).2.1 (openL last l now life).2.2 F := by
  unfold openL
  by_cases h1 : life = 0 ∨ 1099511627776 < life
  · simp only [if_pos h1]
    refine (open_time p now life w h1).mono ?_
    rintro e w' ⟨rfl, rfl⟩
    exact ⟨rfl, .same h (Below.refl _ _)⟩
  · simp only [if_neg h1]
    by_cases h2 : l.length < 16 ∧ last < 18446744073709551615
    · simp only [if_pos h2]
      exact open_any p last now life l F w h h2.1 h2.2 hnow (by omega)
    · simp only [if_neg h2]
      by_cases h3 : l.length < 16
      · obtain rfl : last = 18446744073709551615 := by omega
        refine (open_last p l F now life w h h3 (by omega)).mono ?_
        rintro e w' ⟨rfl, rfl⟩
        exact ⟨rfl, .same h (Below.refl _ _)⟩
      · refine (open_many p last l F now life w h (by omega) (by omega)).mono ?_
        rintro e w' ⟨rfl, rfl⟩
        exact ⟨rfl, .same h (Below.refl _ _)⟩
def closeL : List Sess → Nat → List Sess × Int
  | [], _ => ([], 11)
  | e :: l, id => if e.id = id then (l, 0) else (e :: (closeL l id).1, (closeL l id).2)
theorem closeL_none {l : List Sess} {id : Nat} (h : ∀ e ∈ l, e.id ≠ id) : closeL l id = (l, 11) := by
  induction l with
  | nil => rfl
  | cons e l ih => rw [closeL, if_neg (h e (by simp)), ih (fun x hx => h x (by simp [hx]))]
theorem closeL_some : ∀ {l : List Sess} {id i : Nat} {e : Sess}, l[i]? = some e → e.id = id → (∀ y ∈ l.take i, y.id ≠ id) → closeL l id = (l.eraseIdx i, 0)
  | [], _, _, _, he, _, _ => by simp at he
  | x :: l, id, 0, e, he, hid, _ => by simp at he; subst he; rw [closeL, if_pos hid]; rfl
  | x :: l, id, i + 1, e, he, hid, h => by
    rw [closeL, if_neg (h x (by simp)), closeL_some (l := l) (i := i) (by simpa using he) hid (fun y hy => h y (by simp [hy]))]; rfl
theorem close_all (p last id : Nat) (l : List Sess) (F : List Nat) (w : World) (h : BookAt w p last l F) (hl : l.length ≤ 4096) :
    Calls Tryz.prog 84 #[.pointer (some ⟨p, 0, none⟩), .int .u64 (id : Int)] w fun r w' => r = .returned (.int .i64 (closeL l id).2) ∧ Wrote w w' p last (closeL l id).1 F := by
  rcases who l id with h1 | ⟨i, e, he, hid, hno⟩
  · rw [closeL_none h1]
    refine (close_none p last id l F w h (by omega) h1).mono ?_
    rintro e w' ⟨rfl, hb⟩
    exact ⟨rfl, .same h hb⟩
  · rw [closeL_some he hid hno]
    exact close_some p last id i e l F w h hl he hid hno
/-! ### a list of at most sixteen lives that a number holds -/
def Fit (last : Nat) (l : List Sess) : Prop := l.length ≤ 16 ∧ last < 18446744073709551616 ∧ ∀ e ∈ l, e.life < 18446744073709551616
theorem Fit.opens {last now life : Nat} {l : List Sess} (h : Fit last l) : Fit (openL last l now life).2.1 (openL last l now life).2.2 := by
  obtain ⟨h1, h2, h3⟩ := h
  unfold openL
  by_cases c1 : life = 0 ∨ 1099511627776 < life
  · simp only [if_pos c1]; exact ⟨h1, h2, h3⟩
  · simp only [if_neg c1]
    by_cases c2 : l.length < 16 ∧ last < 18446744073709551615
    · simp only [if_pos c2]
      refine ⟨by simp; omega, by omega, fun e he => ?_⟩
      rcases List.mem_append.1 he with h | h
      · exact h3 e h
      · rw [List.mem_singleton] at h; subst h; dsimp only; omega
    · simp only [if_neg c2]; exact ⟨h1, h2, h3⟩
theorem Fit.closes {last id : Nat} {l : List Sess} (h : Fit last l) : Fit last (closeL l id).1 := by
  rcases who l id with h1 | ⟨i, e, he, hid, hno⟩
  · rw [closeL_none h1]; exact h
  · rw [closeL_some he hid hno]
    have hs := List.eraseIdx_sublist l i
    exact ⟨Nat.le_trans hs.length_le h.1, h.2.1, fun e he => h.2.2 e (hs.subset he)⟩
theorem Fit.renews {last id now : Nat} {l : List Sess} (h : Fit last l) : Fit last (renewL l id now).1 := by
  rcases who l id with h1 | ⟨i, e, he, hid, hno⟩
  · rw [renewL_none h1]; exact h
  · rw [renewL_some he hid hno]
    split
    · exact h
    · refine ⟨by simpa using h.1, h.2.1, fun y hy => ?_⟩
      rcases List.mem_or_eq_of_mem_set hy with h1 | rfl
      · exact h.2.2 y h1
      · exact h.2.2 e (List.mem_of_getElem? he)
theorem Fit.goes {last now : Nat} {l : List Sess} (h : Fit last l) : Fit last (stays l now) := by
  refine ⟨Nat.le_trans (stays_len l now) h.1, h.2.1, fun e he => h.2.2 e ?_⟩
  unfold stays at he
  exact (List.mem_filter.1 he).1
end Go.Proofs.YtackmgmaippajaaGreat.Ls
