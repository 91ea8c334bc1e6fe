/-
  LAYER 7: two books of a law's own.
-/
import Derived.Test.YtgcldmmhfleggaaLeaseE
namespace Go.Proofs.Ytgcldmmhfleggaa
open Go Go.RowKit

/-- Two books, apart from one another. -/
def Two (w0 w : World) (px py lx : Nat) (sx : List Sess) (ly : Nat) (sy : List Sess) : Prop := ∃ F G, BookIn w0 w px lx sx F ∧ BookIn w0 w py ly sy G ∧ ∀ k ∈ F, k ∉ G
theorem Two.symm {w0 w : World} {px py lx ly : Nat} {sx sy : List Sess} (h : Two w0 w px py lx sx ly sy) : Two w0 w py px ly sy lx sx := by
  obtain ⟨F, G, h1, h2, h3⟩ := h
  exact ⟨G, F, h2, h1, fun k hk hF => h3 k hF hk⟩
theorem Two.below {w0 w : World} {px py lx ly : Nat} {sx sy : List Sess} (h : Two w0 w px py lx sx ly sy) : Below w0.heap.size w0 w := by
  obtain ⟨F, G, h1, h2, h3⟩ := h; exact h1.below
theorem Two.stays {w0 w w' : World} {px py lx ly : Nat} {sx sy : List Sess} (h : Two w0 w px py lx sx ly sy) (hb : Below w.heap.size w w') : Two w0 w' px py lx sx ly sy := by
  obtain ⟨F, G, h1, h2, h3⟩ := h; exact ⟨F, G, h1.stays hb, h2.stays hb, h3⟩
theorem Two.step {w0 w w' : World} {px py lx lx' ly : Nat} {sx sx' sy : List Sess} {F G : List Nat} (h1 : BookIn w0 w px lx sx F) (h2 : BookIn w0 w py ly sy G) (h3 : ∀ k ∈ F, k ∉ G) (h : ∃ F', BookIn w0 w' px lx' sx' F' ∧ Chg (· ∈ F) w w' ∧ ∀ k ∈ F', k ∈ F ∨ w.heap.size ≤ k) : Two w0 w' px py lx' sx' ly sy := by
  obtain ⟨F', k1, k2, k3⟩ := h
  refine ⟨F', G, k1, h2.keep k2 (fun k hk hF => h3 k hF hk) h1.new, fun k hk hG => ?_⟩
  rcases k3 k hk with h | h
  · exact h3 k h hG
  · have := h2.book.lt k hG; omega
theorem xopen (w0 : World) (px py lx ly : Nat) (sx sy : List Sess) (NOW LIFE : Int) (now life : Nat) (w : World) (h : Two w0 w px py lx sx ly sy) (hN : NOW = (now : Int)) (hL : LIFE = (life : Int)) (hl : sx.length < 16) (hlast : lx < 18446744073709551615) (hnow : now < 18446744073709551616) (hlf : 1 ≤ life ∧ life ≤ 1099511627776) :
    Calls Try.prog 10 #[.pointer (some ⟨px, 0, none⟩), .int .u64 NOW, .int .u64 LIFE] w fun e w' => e = .returned (.tuple #[.int .u64 ((lx + 1 : Nat) : Int), .int .i64 0]) ∧ Two w0 w' px py (lx + 1) (sx ++ [⟨lx + 1, endsOf now life, life⟩]) ly sy := by
  obtain ⟨F, G, h1, h2, h3⟩ := h
  refine (open_in w0 px lx sx F NOW LIFE now life w h1 hN hL hl hlast hnow hlf).mono ?_
  rintro e w' ⟨rfl, h⟩
  exact ⟨rfl, Two.step h1 h2 h3 h⟩
theorem xrenew (w0 : World) (px py lx ly : Nat) (sx sx' sy : List Sess) (ID NOW code : Int) (id now : Nat) (w : World) (h : Two w0 w px py lx sx ly sy) (hI : ID = (id : Int)) (hN : NOW = (now : Int)) (hr : renewL sx id now = (sx', code)) (hl : sx.length ≤ 1000000) (hnow : now < 18446744073709551616) (hlf : ∀ e ∈ sx, e.life < 18446744073709551616) :
    Calls Try.prog 13 #[.pointer (some ⟨px, 0, none⟩), .int .u64 ID, .int .u64 NOW] w fun e w' => e = .returned (.int .i64 code) ∧ Two w0 w' px py lx sx' ly sy := by
  obtain ⟨F, G, h1, h2, h3⟩ := h
  refine (renew_in w0 px lx sx sx' F ID NOW code id now w h1 hI hN hr hl hnow hlf).mono ?_
  rintro e w' ⟨rfl, h⟩
  exact ⟨rfl, Two.step h1 h2 h3 h⟩
theorem xexpire (w0 : World) (px py lx ly : Nat) (sx sy : List Sess) (NOW : Int) (now : Nat) (w : World) (h : Two w0 w px py lx sx ly sy) (hN : NOW = (now : Int)) (hl : sx.length ≤ 1000000) :
    Calls Try.prog 12 #[.pointer (some ⟨px, 0, none⟩), .int .u64 NOW] w fun e w' => ∃ uo m uc, e = .returned (.slice uo m uc) ∧ Two w0 w' px py lx (Go.Proofs.Ytgcldmmhfleggaa.stays sx now) ly sy := by
  obtain ⟨F, G, h1, h2, h3⟩ := h
  refine (expire_in w0 px lx sx _ _ _ F NOW now w h1 hN rfl rfl rfl hl).mono ?_
  rintro e w' ⟨uo, uc, rfl, _, _, h⟩
  exact ⟨uo, _, uc, rfl, Two.step h1 h2 h3 h⟩
theorem xlive (w0 : World) (px py lx ly : Nat) (sx sy : List Sess) (ID NOW : Int) (id now : Nat) (b : Bool) (w : World) (h : Two w0 w px py lx sx ly sy) (hI : ID = (id : Int)) (hN : NOW = (now : Int)) (hb : liveL sx id now = b) (hl : sx.length ≤ 1000000) :
    Calls Try.prog 11 #[.pointer (some ⟨px, 0, none⟩), .int .u64 ID, .int .u64 NOW] w fun e w' => e = .returned (.bool b) ∧ Two w0 w' px py lx sx ly sy := by
  obtain ⟨F, G, h1, h2, h3⟩ := h
  refine (live_in w0 px lx sx F ID NOW id now b w h1 hI hN hb hl).mono ?_
  rintro e w' ⟨rfl, hb⟩
  exact ⟨rfl, F, G, h1.stays hb, h2.stays hb, h3⟩
/-! ### in plain words -/
theorem renewL_app1 {s1 s2 : List Sess} {id now : Nat} (h : ∀ e ∈ s2, e.id ≠ id) : renewL (s1 ++ s2) id now = ((renewL s1 id now).1 ++ s2, (renewL s1 id now).2) := by
  induction s1 with
  | nil => rw [List.nil_append, renewL_none h]; rfl
  | cons e s1 ih =>
    rw [List.cons_append, renewL, renewL]
    split
    · split <;> rfl
    · rw [ih]; rfl
theorem renewL_app2 {s1 s2 : List Sess} {id now : Nat} (h : ∀ e ∈ s1, e.id ≠ id) : renewL (s1 ++ s2) id now = (s1 ++ (renewL s2 id now).1, (renewL s2 id now).2) := by
  induction s1 with
  | nil => rfl
  | cons e s1 ih =>
    rw [List.cons_append, renewL, if_neg (h e (by simp)), ih (fun x hx => h x (by simp [hx]))]; rfl
theorem liveL_app1 {s1 s2 : List Sess} {id now : Nat} (h : ∀ e ∈ s2, e.id ≠ id) : liveL (s1 ++ s2) id now = liveL s1 id now := by
  induction s1 with
  | nil => rw [List.nil_append, liveL_none h]; rfl
  | cons e s1 ih => rw [List.cons_append, liveL, liveL, ih]
/-- At most one session, of that number. -/
def OneOf (id : Nat) (s : List Sess) : Prop := s.length ≤ 1 ∧ ∀ e ∈ s, e.id = id ∧ e.life ≤ 256
theorem OneOf.renew {id : Nat} {s : List Sess} (h : OneOf id s) (now : Nat) : OneOf id (renewL s id now).1 := by
  obtain ⟨h1, h2⟩ := h
  match s, h1 with
  | [], _ => exact ⟨by simp [renewL], by simp [renewL]⟩
  | [e], _ =>
    have he := h2 e (by simp)
    rw [renewL, if_pos he.1]
    split
    · exact ⟨by simp, h2⟩
    · exact ⟨by simp, fun x hx => by simp at hx; subst hx; exact he⟩
theorem OneOf.stays {id : Nat} {s : List Sess} (h : OneOf id s) (now : Nat) : OneOf id (Go.Proofs.Ytgcldmmhfleggaa.stays s now) := by
  have hl : (s.filter (fun s => !decide (s.ends ≤ now))).length ≤ s.length := List.length_filter_le ..
  exact ⟨Nat.le_trans hl h.1, fun e he => h.2 e ((List.mem_filter.1 he).1)⟩
theorem stays_app (s1 s2 : List Sess) (now : Nat) : stays (s1 ++ s2) now = stays s1 now ++ stays s2 now := List.filter_append ..
theorem OneOf.len2 {i j : Nat} {s1 s2 : List Sess} (h1 : OneOf i s1) (h2 : OneOf j s2) : (s1 ++ s2).length ≤ 1000000 ∧ s1.length ≤ 1000000 ∧ (∀ e ∈ s1 ++ s2, e.life < 18446744073709551616) ∧ ∀ e ∈ s1, e.life < 18446744073709551616 := by
  refine ⟨?_, ?_, fun e he => ?_, fun e he => ?_⟩
  · have := h1.1; have := h2.1; rw [List.length_append]; omega
  · have := h1.1; omega
  · rcases List.mem_append.1 he with h | h
    · have := (h1.2 e h).2; omega
    · have := (h2.2 e h).2; omega
  · have := (h1.2 e he).2; omega
end Go.Proofs.Ytgcldmmhfleggaa
