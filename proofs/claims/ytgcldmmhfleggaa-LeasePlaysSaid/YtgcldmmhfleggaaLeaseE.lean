/-
  LAYER 7: a law's own book; sameIds; Awake.
-/
import Derived.Test.YtgcldmmhfleggaaLeaseD
namespace Go.Proofs.Ytgcldmmhfleggaa
open Go Go.RowKit

/-- A book that was made behind w0. -/
structure BookIn (w0 w : World) (p last : Nat) (l : List Sess) (F : List Nat) : Prop where
  book : BookAt w p last l F
  new : ∀ k ∈ F, w0.heap.size ≤ k
  below : Below w0.heap.size w0 w
theorem BookIn.keep {w0 w w' : World} {p last : Nat} {l : List Sess} {F : List Nat} (h : BookIn w0 w p last l F) {S : Nat → Prop} (hc : Chg S w w') (hS : ∀ k ∈ F, ¬ S k) (hb : ∀ k, S k → w0.heap.size ≤ k) : BookIn w0 w' p last l F :=
  ⟨h.book.keep hc hS, h.new, h.below.trans (hc.below h.below.size hb)⟩
theorem BookIn.alloc {w0 w : World} {p last : Nat} {l : List Sess} {F : List Nat} (h : BookIn w0 w p last l F) (o : Obj) : BookIn w0 (w.alloc o) p last l F :=
  h.keep ((Chg.refl (fun _ => False) w).alloc o) (fun _ _ h => h) (fun _ h => h.elim)
theorem BookIn.stays {w0 w w' : World} {p last : Nat} {l : List Sess} {F : List Nat} (h : BookIn w0 w p last l F) (hb : Below w.heap.size w w') : BookIn w0 w' p last l F :=
  h.keep (Chg.of_below hb (fun _ => False)) (fun _ _ h => h) (fun _ h => h.elim)
theorem BookIn.wrote {w0 w w' : World} {p last last' : Nat} {l l' : List Sess} {F : List Nat} (h : BookIn w0 w p last l F) (hn : Wrote w w' p last' l' F) : ∃ F', BookIn w0 w' p last' l' F' ∧ Chg (· ∈ F) w w' ∧ ∀ k ∈ F', k ∈ F ∨ w.heap.size ≤ k := by
  obtain ⟨F', h1, h2, h3⟩ := hn
  exact ⟨F', ⟨h1, fun k hk => (h3 k hk).elim (h.new k) (Nat.le_trans h.below.size), h.below.trans (h2.below h.below.size h.new)⟩, h2, h3⟩
theorem new_in (w0 w : World) (LAST : Int) (last : Nat) (hL : LAST = (last : Int)) (hl : last < 18446744073709551616) (hb : Below w0.heap.size w0 w) : Calls Try.prog 9 #[.int .u64 LAST, .slice none 0 0] w fun e w' => ∃ p, e = .returned (.tuple #[.pointer (some ⟨p, 0, none⟩), .bool true]) ∧ Below w.heap.size w w' ∧ BookIn w0 w' p last [] [p] ∧ w.heap.size ≤ p := by
  subst hL
  refine (new_any last 0 w hl).mono ?_
  rintro e w' ⟨rfl, h1, h2⟩
  exact ⟨_, rfl, h1, ⟨h2, fun k hk => by rw [List.mem_singleton] at hk; subst hk; exact hb.size, hb.trans (h1.mono hb.size)⟩, Nat.le_refl _⟩
theorem open_in (w0 : World) (p last : Nat) (l : List Sess) (F : List Nat) (NOW LIFE : Int) (now life : Nat) (w : World) (h : BookIn w0 w p last l F) (hN : NOW = (now : Int)) (hL : LIFE = (life : Int)) (hl : l.length < 16) (hlast : last < 18446744073709551615) (hnow : now < 18446744073709551616) (hlf : 1 ≤ life ∧ life ≤ 1099511627776) :
    Calls Try.prog 10 #[.pointer (some ⟨p, 0, none⟩), .int .u64 NOW, .int .u64 LIFE] w fun e w' => e = .returned (.tuple #[.int .u64 ((last + 1 : Nat) : Int), .int .i64 0]) ∧ ∃ F', BookIn w0 w' p (last + 1) (l ++ [⟨last + 1, endsOf now life, life⟩]) F' ∧ Chg (· ∈ F) w w' ∧ ∀ k ∈ F', k ∈ F ∨ w.heap.size ≤ k := by
  subst hN; subst hL
  refine (open_any p last now life l F w h.book hl hlast hnow hlf).mono ?_
  rintro e w' ⟨rfl, h1⟩
  exact ⟨rfl, h.wrote h1⟩
theorem renew_in (w0 : World) (p last : Nat) (l l' : List Sess) (F : List Nat) (ID NOW code : Int) (id now : Nat) (w : World) (h : BookIn w0 w p last l F) (hI : ID = (id : Int)) (hN : NOW = (now : Int)) (hr : renewL l id now = (l', code)) (hl : l.length ≤ 1000000) (hnow : now < 18446744073709551616) (hlf : ∀ e ∈ l, e.life < 18446744073709551616) :
    Calls Try.prog 13 #[.pointer (some ⟨p, 0, none⟩), .int .u64 ID, .int .u64 NOW] w fun e w' => e = .returned (.int .i64 code) ∧ ∃ F', BookIn w0 w' p last l' F' ∧ Chg (· ∈ F) w w' ∧ ∀ k ∈ F', k ∈ F ∨ w.heap.size ≤ k := by
  subst hI; subst hN
  refine (renew_any p last id now l F w h.book hl hnow hlf).mono ?_
  rintro e w' ⟨rfl, h1⟩
  rw [hr] at h1 ⊢
  exact ⟨rfl, h.wrote h1⟩
theorem live_in (w0 : World) (p last : Nat) (l : List Sess) (F : List Nat) (ID NOW : Int) (id now : Nat) (b : Bool) (w : World) (h : BookIn w0 w p last l F) (hI : ID = (id : Int)) (hN : NOW = (now : Int)) (hb : liveL l id now = b) (hl : l.length ≤ 1000000) :
    Calls Try.prog 11 #[.pointer (some ⟨p, 0, none⟩), .int .u64 ID, .int .u64 NOW] w fun e w' => e = .returned (.bool b) ∧ Below w.heap.size w w' := by
  subst hI; subst hN; subst hb
  exact live_any p last id now l F w h.book hl
theorem expire_in (w0 : World) (p last : Nat) (l l' : List Sess) (gone : List Nat) (N : Nat) (F : List Nat) (NOW : Int) (now : Nat) (w : World) (h : BookIn w0 w p last l F) (hN : NOW = (now : Int)) (hg : expired l now = gone) (hs : stays l now = l') (hlen : gone.length = N) (hl : l.length ≤ 1000000) :
    Calls Try.prog 12 #[.pointer (some ⟨p, 0, none⟩), .int .u64 NOW] w fun e w' => ∃ uo uc, e = .returned (.slice uo N uc) ∧ Own w' 1 uo N uc (gone.map idCell) ∧ (∀ a, uo = some a → w.heap.size ≤ a.block) ∧ ∃ F', BookIn w0 w' p last l' F' ∧ Chg (· ∈ F) w w' ∧ ∀ k ∈ F', k ∈ F ∨ w.heap.size ≤ k := by
  subst hN; subst hg; subst hs
  refine (expire_any p last now l F w h.book hl).mono ?_
  rintro e w' ⟨uo, m, uc, rfl, h1, h2, h3⟩
  obtain rfl : m = N := by have := h1.len; rw [List.length_map] at this; omega
  exact ⟨uo, uc, rfl, h1, h2, h.wrote h3⟩
theorem id_at {w : World} {uo : Option Addr} {N uc k : Nat} {l : List Nat} {x : Nat} (h : Own w 1 uo N uc (l.map idCell)) (hx : l[k]? = some x) : ∃ b off, uo = some ⟨b, off, none⟩ ∧ w.cell? ⟨b, off + k, none⟩ = some (.int .u64 (x : Int)) := by
  have hk := (List.getElem?_eq_some_iff.1 hx).1
  have hl := h.len
  rw [List.length_map, Nat.mul_one] at hl
  cases hu : uo with
  | none => have := h.nil hu; have := h.le; omega
  | some a =>
    obtain ⟨b, off, sp⟩ := a
    have hsp := (h.at_ _ hu).1
    simp at hsp
    subst hsp; subst hu
    exact ⟨b, off, rfl, (h.cellAt (k := k) (v := idCell x) (by rw [List.getElem?_map, hx]; rfl)).1⟩
set_option maxHeartbeats 1000000 in
set_option maxRecDepth 100000 in
theorem awake (w : World) : Calls Try.prog 8 #[] w fun e w' => e = .returned (.bool true) ∧ Below w.heap.size w w' := by
  have HE := Lib.hid (show endsOf 5 10 = 15 from rfl)
  have HR := Lib.hid (show renewL [⟨1, 15, 10⟩] 1 14 = ([⟨1, 24, 10⟩], 0) from rfl)
  have HX := Lib.hid (And.intro (show expired [⟨1, 24, 10⟩] 15 = [] from rfl) (And.intro (show stays [⟨1, 24, 10⟩] 15 = [⟨1, 24, 10⟩] from rfl) (And.intro (show expired [⟨1, 24, 10⟩] 24 = [1] from rfl) (show stays [⟨1, 24, 10⟩] 24 = [] from rfl))))
  have HL := Lib.hid (show ∀ e ∈ ([⟨1, 15, 10⟩] : List Sess), e.life < 18446744073709551616 by simp)
  go_enter Try.func8, Try.ntmps8
  go_wp2_with (first
    | (go_at_call 9; (with_reducible refine (new_in w _ 0 0 rfl (by decide) (Below.refl _ _)).mono ?_); rintro e1 w1 ⟨p, rfl, _, hn1, _⟩; have H1 := Lib.hid hn1; clear hn1)
    | (go_at_call 10; (with_reducible refine (open_in w p 0 [] _ 5 10 5 10 _ H1.out rfl rfl (by decide) (by decide) (by decide) (by decide)).mono ?_); rintro e2 w2 ⟨rfl, F2, hn2, _, _⟩; have H2 := Lib.hid (show BookIn w w2 p 1 [⟨1, 15, 10⟩] F2 from hn2); clear hn2)
    | (go_at_call 13; (with_reducible refine (renew_in w p 1 _ _ _ 1 14 0 1 14 _ H2.out rfl rfl HR.out (by decide) (by decide) HL.out).mono ?_); rintro e3 w3 ⟨rfl, F3, hn3, _, _⟩; have H3 := Lib.hid hn3; clear hn3)
    | (go_at_call 12; (with_reducible refine (expire_in w p 1 _ _ _ 0 _ 15 15 _ H3.out rfl HX.out.1 HX.out.2.1 rfl (by decide)).mono ?_); rintro e4 w4 ⟨uo, uc, rfl, ho4, _, F4, hn4, _, _⟩; have H4 := Lib.hid hn4; clear hn4 ho4)
    | (go_at_call 12; (with_reducible refine (expire_in w p 1 _ _ _ 1 _ 24 24 _ H4.out rfl HX.out.2.2.1 HX.out.2.2.2 rfl (by decide)).mono ?_); rintro e5 w5 ⟨vo, vc, rfl, ho5, _, F5, hn5, _, _⟩; obtain ⟨b5, o5, rfl, q5⟩ := id_at (k := 0) (x := 1) ho5 rfl; rw [Nat.add_zero] at q5; have H5 := Lib.hid hn5; clear hn5 ho5))
  go_ret
  exact ⟨rfl, H5.out.below⟩
end Go.Proofs.Ytgcldmmhfleggaa
