/-
  LAYER 7: both books: SameSessions, shows; each call's answer and what it leaves, in plain words.
-/
import Derived.Test.YtgcldmmhfleggaaLeaseZa
import Derived.Test.YtgcldmmhfleggaaLeaseW
import Derived.Test.YtgcldmmhfleggaaLeaseL
import Derived.Test.YtgcldmmhfleggaaLeaseR
namespace Go.Proofs.Ytgcldmmhfleggaa
open Go Go.RowKit

set_option maxHeartbeats 2000000 in
set_option maxRecDepth 100000 in
theorem same_sess (ao bo : Option Addr) (n c d : Nat) (l : List Sess) (w : World) (h1 : Row w ao (l.flatMap Sess.cells)) (h2 : Row w bo (l.flatMap Sess.cells)) (hn : l.length = n) (hm : n ≤ 1000000) :
    Calls Try.prog 32 #[.slice ao n c, .slice bo n d] w fun e w' => e = .returned (.bool true) ∧ Below w.heap.size w w' := by
  have HH := Lib.hid (And.intro h1 (And.intro h2 hn))
  clear h1 h2 hn
  go_enter Try.func32, Try.ntmps32
  go_wp2
  go_loopg [5] n (fun g v wr => ∃ k : Nat, g + k = n ∧ v = .int .i64 k ∧ Below w.heap.size w wr)
  case atStart => exact ⟨0, by omega, rfl, Below.refl _ _⟩
  case round =>
    obtain ⟨k, hgk, rfl, hb⟩ := hrel
    have hr1 := HH.out.1.below hb
    have hr2 := HH.out.2.1.below hb
    have HB := Lib.hid hb
    clear hb
    by_cases hk : k < n
    · obtain ⟨e, he⟩ : ∃ e, l[k]? = some e := ⟨_, List.getElem?_eq_getElem (by rw [HH.out.2.2]; exact hk)⟩
      obtain ⟨b1, o1, rfl, c0, c1, c2⟩ := row_at hr1 he
      obtain ⟨b2, o2, rfl, d0, d1, d2⟩ := row_at hr2 he
      have hki : (k : Int) < (n : Int) := by omega
      have hk0 : (0 : Int) ≤ (k : Int) := by omega
      clear hr1 hr2 he
      go_wp2
      go_quiet (fail)
      go_wp2
      go_roundg (gk - 1)
      case measure => omega
      case rel => exact ⟨k + 1, by omega, by go_num, bdrew HB.out _⟩
    · clear hr1 hr2
      go_wp2
      go_ret
      exact ⟨rfl, HB.out⟩
set_option maxHeartbeats 1000000 in
theorem all_any (p last : Nat) (l : List Sess) (F : List Nat) (w : World) (h : BookAt w p last l F) (hl : l.length ≤ 1000000) :
    Calls Try.prog 15 #[.pointer (some ⟨p, 0, none⟩)] w fun e w' => ∃ xo xc, e = .returned (.tuple #[.int .u64 (last : Int), .slice xo l.length xc]) ∧ Below w.heap.size w w' ∧ Own w' 3 xo l.length xc (l.flatMap Sess.cells) := by
  obtain ⟨lo, n, cap, h1, h2, h3, hF⟩ := h
  have hn := fl_own_len el_e h2
  subst hn
  obtain ⟨z0, z1, z2⟩ := cells2 h1
  have d0 : w.drew.cell? ⟨p, 0, none⟩ = some (.int .u64 (last : Int)) := z0
  have d1 : w.drew.cell? ⟨p, 1, none⟩ = some (.slice lo l.length cap) := z1
  have HCL := Lib.hid (clone_row lo l.length cap l w.drew h2.drew.row rfl (by omega))
  have HX := Lib.hid h1
  clear h1 h2 h3 hF
  generalize l.length = n at *
  go_enter Try.func15, Try.ntmps15
  go_wp2
  go_region_with (go_at_call 24; (with_reducible refine HCL.out.mono ?_); rintro e1 w1 ⟨xo, xc, rfl, hb, ho, _⟩; obtain ⟨y0, y1, y2⟩ := cells2 ((Chg.of_below hb (fun _ => False)).heap (w := w.drew) HX.out (fun h => h)); have H1 := Lib.hid (And.intro hb ho); clear hb ho)
  all_goals go_wp2
  all_goals (
    go_ret2
    exact ⟨xo, xc, rfl, (Below.refl _ w).drew.trans H1.out.1, H1.out.2⟩)
theorem shows_any (p q last : Nat) (l : List Sess) (F G : List Nat) (w : World) (h : BookAt w p last l F) (hr : RBookAt w q last l G) (hl : l.length ≤ 1000000) :
    Calls Try.prog 22 #[.pointer (some ⟨p, 0, none⟩), .pointer (some ⟨q, 0, none⟩)] w fun e w' => e = .returned (.bool true) ∧ Below w.heap.size w w' := by
  have HA := Lib.hid (all_any p last l F w h hl)
  have HR := Lib.hid hr
  obtain ⟨lo, n, cap, h1, h2, h3, hF⟩ := hr
  have hn := fl_own_len el_e h2
  subst hn
  have HX := Lib.hid (And.intro h1 (And.intro h2.row hl))
  clear h1 h2 h3 hF h
  generalize hL : l.length = n at *
  have hL := Lib.hid hL
  go_enter Try.func22, Try.ntmps22
  go_wp2_with (first
    | (go_at_call 15; (with_reducible refine HA.out.mono ?_); rintro e1 w1 ⟨xo, xc, rfl, hb, ho⟩; obtain ⟨y0, y1, y2⟩ := cells2 ((Chg.of_below hb (fun _ => False)).heap HX.out.1 (fun h => h)); have hz := HX.out.2.1.below hb; have H1 := Lib.hid (And.intro hb (And.intro ho.row hz)); clear hb ho hz)
    | (go_at_call 32; (with_reducible refine (same_sess xo lo _ xc cap l w1 H1.out.2.1 H1.out.2.2 hL.out HX.out.2.2).mono ?_); rintro e2 w2 ⟨rfl, hb2⟩; have H2 := Lib.hid (H1.out.1.trans (hb2.mono H1.out.1.size)); clear hb2))
  go_ret
  exact ⟨rfl, H2.out⟩
def openL (last : Nat) (l : List Sess) (now life : Nat) : (Nat × Int) × (Nat × List Sess) :=
  if life = 0 ∨ 1099511627776 < life then ((0, 63), (last, l))
  else if l.length < 16 ∧ last < 18446744073709551615 then ((last + 1, 0), (last + 1, l ++ [⟨last + 1, endsOf now life, life⟩]))
  else ((0, 14), (last, l))
theorem open_all (p last now life : Nat) (l : List Sess) (F : List Nat) (w : World) (h : BookAt w p last l F) (hlast : last < 18446744073709551616) (hnow : now < 18446744073709551616) :
    Calls Try.prog 10 #[.pointer (some ⟨p, 0, none⟩), .int .u64 (now : Int), .int .u64 (life : Int)] w fun e w' => e = .returned (.tuple #[.int .u64 ((openL last l now life).1.1 : Int), .int .i64 (openL last l now life).1.2]) ∧ Wrote w w' p (openL last l now life).2.1 (openL last l now life).2.2 F := by
  unfold openL
  by_cases h1 : life = 0 ∨ 1099511627776 < life
  · simp only [if_pos h1]
    refine (open_time p now life w h1).mono ?_
    rintro e w' ⟨rfl, rfl⟩
    exact ⟨rfl, .same h (Below.refl _ _)⟩
  · simp only [if_neg h1]
    by_cases h2 : l.length < 16 ∧ last < 18446744073709551615
    · simp only [if_pos h2]
      exact open_any p last now life l F w h h2.1 h2.2 hnow (by omega)
    · simp only [if_neg h2]
      by_cases h3 : l.length < 16
      · obtain rfl : last = 18446744073709551615 := by omega
        refine (open_last p l F now life w h h3 (by omega)).mono ?_
        rintro e w' ⟨rfl, rfl⟩
        exact ⟨rfl, .same h (Below.refl _ _)⟩
      · refine (open_many p last l F now life w h (by omega) (by omega)).mono ?_
        rintro e w' ⟨rfl, rfl⟩
        exact ⟨rfl, .same h (Below.refl _ _)⟩
theorem ropen_all (p last now life : Nat) (l : List Sess) (F : List Nat) (w : World) (h : RBookAt w p last l F) (hl : l.length ≤ 16) (hlast : last < 18446744073709551616) (hnow : now < 18446744073709551616) :
    Calls Try.prog 18 #[.pointer (some ⟨p, 0, none⟩), .int .u64 (now : Int), .int .u64 (life : Int)] w fun e w' => e = .returned (.tuple #[.int .u64 ((openL last l now life).1.1 : Int), .int .i64 (openL last l now life).1.2]) ∧ RWrote w w' p (openL last l now life).2.1 (openL last l now life).2.2 F := by
  unfold openL
  by_cases h1 : life = 0 ∨ 1099511627776 < life
  · simp only [if_pos h1]
    refine (ropen_time p now life w h1).mono ?_
    rintro e w' ⟨rfl, rfl⟩
    exact ⟨rfl, .same h (Below.refl _ _)⟩
  · simp only [if_neg h1]
    by_cases h2 : l.length < 16 ∧ last < 18446744073709551615
    · simp only [if_pos h2]
      exact ropen_any p last now life l F w h h2.1 h2.2 hnow (by omega)
    · simp only [if_neg h2]
      refine (ropen_many p last now life l F w h (by omega) (by omega)).mono ?_
      rintro e w' ⟨rfl, rfl⟩
      exact ⟨rfl, .same h (Below.refl _ _)⟩
def closeL : List Sess → Nat → List Sess × Int
  | [], _ => ([], 11)
  | e :: l, id => if e.id = id then (l, 0) else (e :: (closeL l id).1, (closeL l id).2)
theorem closeL_none {l : List Sess} {id : Nat} (h : ∀ e ∈ l, e.id ≠ id) : closeL l id = (l, 11) := by
  induction l with
  | nil => rfl
  | cons e l ih => rw [closeL, if_neg (h e (by simp)), ih (fun x hx => h x (by simp [hx]))]
theorem closeL_some : ∀ {l : List Sess} {id i : Nat} {e : Sess}, l[i]? = some e → e.id = id → (∀ y ∈ l.take i, y.id ≠ id) → closeL l id = (l.eraseIdx i, 0)
  | [], _, _, _, he, _, _ => by simp at he
  | x :: l, id, 0, e, he, hid, _ => by simp at he; subst he; rw [closeL, if_pos hid]; rfl
  | x :: l, id, i + 1, e, he, hid, h => by
    rw [closeL, if_neg (h x (by simp)), closeL_some (l := l) (i := i) (by simpa using he) hid (fun y hy => h y (by simp [hy]))]; rfl
theorem close_all (p last id : Nat) (l : List Sess) (F : List Nat) (w : World) (h : BookAt w p last l F) (hl : l.length ≤ 4096) :
    Calls Try.prog 16 #[.pointer (some ⟨p, 0, none⟩), .int .u64 (id : Int)] w fun r w' => r = .returned (.int .i64 (closeL l id).2) ∧ Wrote w w' p last (closeL l id).1 F := by
  rcases who l id with h1 | ⟨i, e, he, hid, hno⟩
  · rw [closeL_none h1]
    refine (close_none p last id l F w h (by omega) h1).mono ?_
    rintro e w' ⟨rfl, hb⟩
    exact ⟨rfl, .same h hb⟩
  · rw [closeL_some he hid hno]
    exact close_some p last id i e l F w h hl he hid hno
theorem rclose_all (p last id : Nat) (l : List Sess) (F : List Nat) (w : World) (h : RBookAt w p last l F) (hl : l.length ≤ 4096) :
    Calls Try.prog 20 #[.pointer (some ⟨p, 0, none⟩), .int .u64 (id : Int)] w fun r w' => r = .returned (.int .i64 (closeL l id).2) ∧ RWrote w w' p last (closeL l id).1 F := by
  rcases who l id with h1 | ⟨i, e, he, hid, hno⟩
  · rw [closeL_none h1]
    refine (rclose_none p last id l F w h (by omega) h1).mono ?_
    rintro e w' ⟨rfl, rfl⟩
    exact ⟨rfl, .same h (Below.refl _ _)⟩
  · rw [closeL_some he hid hno]
    exact rclose_some p last id i e l F w h hl he hid hno
/-! ### a list of at most sixteen lives that a number holds -/
def Fit (last : Nat) (l : List Sess) : Prop := l.length ≤ 16 ∧ last < 18446744073709551616 ∧ ∀ e ∈ l, e.life < 18446744073709551616
theorem Fit.opens {last now life : Nat} {l : List Sess} (h : Fit last l) : Fit (openL last l now life).2.1 (openL last l now life).2.2 := by
  obtain ⟨h1, h2, h3⟩ := h
  unfold openL
  by_cases c1 : life = 0 ∨ 1099511627776 < life
  · simp only [if_pos c1]; exact ⟨h1, h2, h3⟩
  · simp only [if_neg c1]
    by_cases c2 : l.length < 16 ∧ last < 18446744073709551615
    · simp only [if_pos c2]
      refine ⟨by simp; omega, by omega, fun e he => ?_⟩
      rcases List.mem_append.1 he with h | h
      · exact h3 e h
      · rw [List.mem_singleton] at h; subst h; dsimp only; omega
    · simp only [if_neg c2]; exact ⟨h1, h2, h3⟩
theorem Fit.closes {last id : Nat} {l : List Sess} (h : Fit last l) : Fit last (closeL l id).1 := by
  rcases who l id with h1 | ⟨i, e, he, hid, hno⟩
  · rw [closeL_none h1]; exact h
  · rw [closeL_some he hid hno]
    have hs := List.eraseIdx_sublist l i
    exact ⟨Nat.le_trans hs.length_le h.1, h.2.1, fun e he => h.2.2 e (hs.subset he)⟩
theorem Fit.renews {last id now : Nat} {l : List Sess} (h : Fit last l) : Fit last (renewL l id now).1 := by
  rcases who l id with h1 | ⟨i, e, he, hid, hno⟩
  · rw [renewL_none h1]; exact h
  · rw [renewL_some he hid hno]
    split
    · exact h
    · refine ⟨by simpa using h.1, h.2.1, fun y hy => ?_⟩
      rcases List.mem_or_eq_of_mem_set hy with h1 | rfl
      · exact h.2.2 y h1
      · exact h.2.2 e (List.mem_of_getElem? he)
theorem Fit.goes {last now : Nat} {l : List Sess} (h : Fit last l) : Fit last (stays l now) := by
  refine ⟨Nat.le_trans (stays_len l now) h.1, h.2.1, fun e he => h.2.2 e ?_⟩
  unfold stays at he
  exact (List.mem_filter.1 he).1
end Go.Proofs.Ytgcldmmhfleggaa
