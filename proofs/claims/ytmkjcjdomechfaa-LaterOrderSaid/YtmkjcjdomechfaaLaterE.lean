/-
  LAYER 19: a law's own list; nil ones; Awake; the law LaterNil.
-/
import Derived.Test.YtmkjcjdomechfaaLaterD
import Derived.Test.YtmkjcjdomechfaaOpen
namespace Go.Proofs.Ytmkjcjdomechfaa
open Go Go.RowKit

theorem put_nil (v u : Value) (w : World) (hv : ∃ a b, v = .agg #[.int .u64 a, .int .u64 b]) : Calls Try.prog 10 #[.pointer none, v, u] w fun r w' => r = .returned (.int .i64 1) ∧ Below w.heap.size w w' := by
  obtain ⟨a, b, rfl⟩ := hv
  go_enter Try.func10, Try.ntmps10
  go_wp2
  go_ret
  exact ⟨rfl, (Below.refl _ w).alloc (Nat.le_refl _) _⟩
theorem drop_nil (v : Value) (w : World) (hv : ∃ a b, v = .agg #[.int .u64 a, .int .u64 b]) : Calls Try.prog 12 #[.pointer none, v] w fun r w' => r = .returned (.bool false) ∧ Below w.heap.size w w' := by
  obtain ⟨a, b, rfl⟩ := hv
  go_enter Try.func12, Try.ntmps12
  go_wp2
  go_ret
  exact ⟨rfl, (Below.refl _ w).alloc (Nat.le_refl _) _⟩
theorem due_nil (v : Value) (w : World) : Calls Try.prog 15 #[.pointer none, v] w fun r w' => r = .returned (.slice none 0 0) ∧ Below w.heap.size w w' := by
  go_enter Try.func15, Try.ntmps15
  go_wp2
  go_loopg [5] 0 (fun g v wr => v = .slice none 0 0 ∧ wr = w)
  case atStart => exact ⟨rfl, rfl⟩
  case round =>
    obtain ⟨rfl, rfl⟩ := hrel
    go_wp2
    go_ret
    exact ⟨rfl, Below.refl _ _⟩
theorem all_nil (w : World) : Calls Try.prog 17 #[.pointer none] w fun r w' => r = .returned (.slice none 0 0) ∧ Below w.heap.size w w' := by
  go_enter Try.func17, Try.ntmps17
  go_wp2
  go_ret
  exact ⟨rfl, Below.refl _ _⟩
/-- A list that was made behind w0. -/
structure ListIn (w0 w : World) (p : Nat) (l : List Wt) (F : List Nat) : Prop where
  list : ListAt w p l F
  new : ∀ k ∈ F, w0.heap.size ≤ k
  below : Below w0.heap.size w0 w
  fine : Fine l
theorem ListIn.keep {w0 w w' : World} {p : Nat} {l : List Wt} {F : List Nat} (h : ListIn w0 w p l F) {S : Nat → Prop} (hc : Chg S w w') (hS : ∀ k ∈ F, ¬ S k) (hb : ∀ k, S k → w0.heap.size ≤ k) : ListIn w0 w' p l F :=
  ⟨h.list.keep hc hS, h.new, h.below.trans (hc.below h.below.size hb), h.fine⟩
theorem ListIn.stays {w0 w w' : World} {p : Nat} {l : List Wt} {F : List Nat} (h : ListIn w0 w p l F) (hb : Below w.heap.size w w') : ListIn w0 w' p l F :=
  h.keep (Chg.of_below hb (fun _ => False)) (fun _ _ h => h) (fun _ h => h.elim)
theorem ListIn.alloc {w0 w : World} {p : Nat} {l : List Wt} {F : List Nat} (h : ListIn w0 w p l F) (o : Obj) : ListIn w0 (w.alloc o) p l F :=
  h.stays ((Below.refl _ w).alloc (Nat.le_refl _) o)
theorem ListIn.wrote {w0 w w' : World} {p : Nat} {l l' : List Wt} {F : List Nat} (h : ListIn w0 w p l F) (hn : Wrote w w' p l' F) (hf : Fine l') : ∃ F', ListIn w0 w' p l' F' ∧ Chg (· ∈ F) w w' ∧ ∀ k ∈ F', k ∈ F ∨ w.heap.size ≤ k := by
  obtain ⟨F', h1, h2, h3⟩ := hn
  exact ⟨F', ⟨h1, fun k hk => (h3 k hk).elim (h.new k) (Nat.le_trans h.below.size), h.below.trans (h2.below h.below.size h.new), hf⟩, h2, h3⟩
theorem new_in (w0 w : World) (hb : Below w0.heap.size w0 w) : Calls Try.prog 8 #[] w fun e w' => ∃ p, e = .returned (.pointer (some ⟨p, 0, none⟩)) ∧ Below w.heap.size w w' ∧ ListIn w0 w' p [] [p] ∧ w.heap.size ≤ p := by
  refine (new_any w).mono ?_
  rintro e w' ⟨rfl, h1, h2⟩
  exact ⟨_, rfl, h1, ⟨h2, fun k hk => by rw [List.mem_singleton] at hk; subst hk; exact hb.size, hb.trans (h1.mono hb.size), Fine.nil⟩, Nat.le_refl _⟩
theorem put_in (w0 : World) (p : Nat) (l l' : List Wt) (F : List Nat) (A B AT c : Int) (a b at_ : Nat) (w : World) (h : ListIn w0 w p l F) (hA : A = (a : Int)) (hB : B = (b : Int)) (hT : AT = (at_ : Int)) (hp : putL l a b at_ = (l', c)) :
    Calls Try.prog 10 #[.pointer (some ⟨p, 0, none⟩), .agg #[.int .u64 A, .int .u64 B], .int .u64 AT] w fun e w' => e = .returned (.int .i64 c) ∧ ∃ F', ListIn w0 w' p l' F' ∧ Chg (· ∈ F) w w' ∧ ∀ k ∈ F', k ∈ F ∨ w.heap.size ≤ k := by
  subst hA; subst hB; subst hT
  refine (put_all p a b at_ l F w h.list h.fine).mono ?_
  rintro e w' ⟨rfl, h1⟩
  have hf := h.fine.puts a b at_
  rw [hp] at h1 hf ⊢
  exact ⟨rfl, h.wrote h1 hf⟩
theorem drop_in (w0 : World) (p : Nat) (l l' : List Wt) (F : List Nat) (A B : Int) (c : Bool) (a b : Nat) (w : World) (h : ListIn w0 w p l F) (hA : A = (a : Int)) (hB : B = (b : Int)) (hp : dropL l a b = (l', c)) :
    Calls Try.prog 12 #[.pointer (some ⟨p, 0, none⟩), .agg #[.int .u64 A, .int .u64 B]] w fun e w' => e = .returned (.bool c) ∧ ∃ F', ListIn w0 w' p l' F' ∧ Chg (· ∈ F) w w' ∧ ∀ k ∈ F', k ∈ F ∨ w.heap.size ≤ k := by
  subst hA; subst hB
  refine (drop_all p a b l F w h.list (Nat.le_trans h.fine.len (by decide))).mono ?_
  rintro e w' ⟨rfl, h1⟩
  have hf := h.fine.drops a b
  rw [hp] at h1 hf ⊢
  exact ⟨rfl, h.wrote h1 hf⟩
theorem Fine.rest {l : List Wt} (h : Fine l) (now : Nat) : Fine (dueRest l now) := by
  have hs : (dueRest l now).Sublist l := List.dropWhile_sublist _
  exact ⟨List.Pairwise.sublist hs h.sorted, List.Pairwise.sublist hs h.once, Nat.le_trans hs.length_le h.len⟩
theorem due_in (w0 : World) (p : Nat) (l l' out : List Wt) (N : Nat) (F : List Nat) (NOW : Int) (now : Nat) (w : World) (h : ListIn w0 w p l F) (hN : NOW = (now : Int)) (ho : dueOut l now = out) (hr : dueRest l now = l') (hlen : out.length = N) :
    Calls Try.prog 15 #[.pointer (some ⟨p, 0, none⟩), .int .u64 NOW] w fun e w' => ∃ uo uc, e = .returned (.slice uo N uc) ∧ Own w' 2 uo N uc (out.flatMap Wt.pos) ∧ (∀ a, uo = some a → w.heap.size ≤ a.block) ∧ ∃ F', ListIn w0 w' p l' F' ∧ Chg (· ∈ F) w w' ∧ ∀ k ∈ F', k ∈ F ∨ w.heap.size ≤ k := by
  subst hN; subst ho; subst hr; subst hlen
  refine (due_any p now l F w h.list (Nat.le_trans h.fine.len (by decide))).mono ?_
  rintro e w' ⟨uo, uc, rfl, h1, h2, h3⟩
  exact ⟨uo, uc, rfl, h1, h2, h.wrote h3 (h.fine.rest now)⟩
theorem pos_at {w : World} {uo : Option Addr} {N uc k : Nat} {l : List Wt} {x : Wt} (h : Own w 2 uo N uc (l.flatMap Wt.pos)) (hx : l[k]? = some x) : ∃ b off, uo = some ⟨b, off, none⟩ ∧ w.cell? ⟨b, off + k * 2, none⟩ = some (.int .u64 (x.led : Int)) ∧ w.cell? ⟨b, off + k * 2 + 1, none⟩ = some (.int .u64 (x.ent : Int)) := by
  obtain ⟨b, off, rfl, h1⟩ := fl_at el_pos h hx
  have q0 := (h1 0 _ rfl).1
  have q1 := (h1 1 _ rfl).1
  exact ⟨b, off, rfl, q0, by rw [Nat.add_assoc]; exact q1⟩
set_option maxHeartbeats 1000000 in
set_option maxRecDepth 100000 in
theorem awake (w : World) : Calls Try.prog 7 #[] w fun e w' => e = .returned (.bool true) ∧ Below w.heap.size w w' := by
  have HX := Lib.hid (And.intro (show putL [] 1 0 5 = ([⟨5, 1, 0⟩], 0) from rfl) (And.intro (show putL [⟨5, 1, 0⟩] 1 1 3 = ([⟨3, 1, 1⟩, ⟨5, 1, 0⟩], 0) from rfl) (And.intro (show putL [⟨3, 1, 1⟩, ⟨5, 1, 0⟩] 1 0 4 = ([⟨3, 1, 1⟩, ⟨4, 1, 0⟩], 0) from rfl) (And.intro (show dueOut [⟨3, 1, 1⟩, ⟨4, 1, 0⟩] 4 = [⟨3, 1, 1⟩, ⟨4, 1, 0⟩] from rfl) (show dueRest [⟨3, 1, 1⟩, ⟨4, 1, 0⟩] 4 = [] from rfl)))))
  go_enter Try.func7, Try.ntmps7
  go_wp2_with (first
    | (go_at_call 8; (with_reducible refine (new_in w _ (Below.refl _ _)).mono ?_); rintro e1 w1 ⟨p, rfl, _, hn1, _⟩; have H1 := Lib.hid hn1; clear hn1)
    | (go_at_call 10; (with_reducible refine (put_in w p [] _ _ 1 0 5 0 1 0 5 _ H1.out rfl rfl rfl HX.out.1).mono ?_); rintro e2 w2 ⟨rfl, F2, hn2, _, _⟩; have H2 := Lib.hid hn2; clear hn2)
    | (go_at_call 10; (with_reducible refine (put_in w p _ _ _ 1 1 3 0 1 1 3 _ H2.out rfl rfl rfl HX.out.2.1).mono ?_); rintro e2 w3 ⟨rfl, F3, hn3, _, _⟩; have H3 := Lib.hid hn3; clear hn3)
    | (go_at_call 10; (with_reducible refine (put_in w p _ _ _ 1 0 4 0 1 0 4 _ H3.out rfl rfl rfl HX.out.2.2.1).mono ?_); rintro e2 w4 ⟨rfl, F4, hn4, _, _⟩; have H4 := Lib.hid hn4; clear hn4)
    | (go_at_call 15; (with_reducible refine (due_in w p _ _ _ 2 _ 4 4 _ H4.out rfl HX.out.2.2.2.1 HX.out.2.2.2.2 rfl).mono ?_); rintro e5 w5 ⟨uo, uc, rfl, ho5, _, F5, hn5, _, _⟩; obtain ⟨b5, o5, rfl, q4, q5⟩ := pos_at (k := 0) ho5 rfl; rw [Nat.zero_mul, Nat.add_zero] at q4 q5; have H5 := Lib.hid hn5; clear hn5 ho5))
  go_ret
  exact ⟨rfl, H5.out.below⟩
set_option maxHeartbeats 1000000 in
theorem laterNil_any (k a b c : Int) (raw : Bool) (w : World) :
    Calls Try.prog 6 #[.agg #[.int .u8 k, .int .u64 a, .int .u64 b, .int .u64 c, .bool raw]] w fun e w' => e = .returned (.bool true) ∧ Below w.heap.size w w' := by
  have hT := heap_top w (.cells #[.int .u8 k, .int .u64 a, .int .u64 b, .int .u64 c, .bool raw] 34)
  have HB := Lib.hid ((Below.refl _ w).alloc (Nat.le_refl _) (.cells #[.int .u8 k, .int .u64 a, .int .u64 b, .int .u64 c, .bool raw] 34))
  have HT := Lib.hid (show ∀ w', Below w.heap.size w w' → True from fun _ _ => trivial)
  have cells : ∀ w', Below (w.alloc (.cells #[.int .u8 k, .int .u64 a, .int .u64 b, .int .u64 c, .bool raw] 34)).heap.size (w.alloc (.cells #[.int .u8 k, .int .u64 a, .int .u64 b, .int .u64 c, .bool raw] 34)) w' → w'.cell? ⟨w.heap.size, 1, none⟩ = some (.int .u64 a) ∧ w'.cell? ⟨w.heap.size, 2, none⟩ = some (.int .u64 b) ∧ w'.cell? ⟨w.heap.size, 3, none⟩ = some (.int .u64 c) := by
    intro w' hb
    have h := (Chg.of_below hb (fun _ => False)).heap hT (fun h => h)
    have h1 := heap_cell h 1
    have h2 := heap_cell h 2
    have h3 := heap_cell h 3
    simp at h1 h2 h3
    exact ⟨h1, h2, h3⟩
  have HC := Lib.hid cells
  clear cells hT HT
  go_enter Try.func6, Try.ntmps6
  go_wp2_with fail
  (with_reducible refine (awake _).mono ?_)
  rintro e1 w1 ⟨rfl, hb1⟩
  obtain ⟨q1, q2, q3⟩ := HC.out w1 hb1
  have H1 := Lib.hid hb1
  clear hb1
  go_wp2_with fail
  (with_reducible refine (put_nil _ _ _ ⟨_, _, rfl⟩).mono ?_)
  rintro e2 w2 ⟨rfl, hb2⟩
  have hb2 := H1.out.trans (hb2.mono H1.out.size)
  obtain ⟨q1, q2, q3⟩ := HC.out w2 hb2
  have H2 := Lib.hid hb2
  clear hb2
  go_wp2_with fail
  (with_reducible refine (drop_nil _ _ ⟨_, _, rfl⟩).mono ?_)
  rintro e3 w3 ⟨rfl, hb3⟩
  have hb3 := H2.out.trans (hb3.mono H2.out.size)
  obtain ⟨q1, q2, q3⟩ := HC.out w3 hb3
  have H3 := Lib.hid hb3
  clear hb3
  go_wp2_with fail
  (with_reducible refine (due_nil _ _).mono ?_)
  rintro e4 w4 ⟨rfl, hb4⟩
  have hb4 := H3.out.trans (hb4.mono H3.out.size)
  have H4 := Lib.hid hb4
  clear hb4
  go_wp2_with fail
  (with_reducible refine (all_nil _).mono ?_)
  rintro e5 w5 ⟨rfl, hb5⟩
  have H5 := Lib.hid (H4.out.trans (hb5.mono H4.out.size))
  clear hb5
  go_wp2
  go_ret
  exact ⟨rfl, HB.out.trans (H5.out.mono HB.out.size)⟩
structure ActW where
  kind : UInt8
  at_ : Nat
  led : Nat
  ent : Nat
  raw : Bool
def ActIs (t : ActW) (cs : List Value) : Prop := cs = [.int .u8 (t.kind.toNat : Int), .int .u64 (t.at_ : Int), .int .u64 (t.led : Int), .int .u64 (t.ent : Int), .bool t.raw] ∧ t.at_ < 18446744073709551616 ∧ t.led < 18446744073709551616 ∧ t.ent < 18446744073709551616
theorem pos_rd {w : World} {cs : List Value} (h : Rd Try.prog w 32 cs) : ∃ a b : Nat, cs = [.int .u64 (a : Int), .int .u64 (b : Int)] ∧ a < 18446744073709551616 ∧ b < 18446744073709551616 := by
  have hu := Try.underlying32
  obtain ⟨c0, c1, rfl⟩ := list2 ((h.struct hu).1.trans (by kernel_rfl))
  obtain ⟨a, e1, h1⟩ := (h.field hu 0 rfl (n := 1) (by kernel_rfl)).u64 Try.underlying30
  obtain ⟨b, e2, h2⟩ := (h.field hu 1 rfl (n := 1) (by kernel_rfl)).u64 Try.underlying30
  simp at e1 e2
  subst e1 e2
  exact ⟨a, b, rfl, h1, h2⟩
theorem act_rd {w : World} {cs : List Value} (h : Rd Try.prog w 34 cs) : ∃ t, ActIs t cs := by
  have hu := Try.underlying34
  obtain ⟨c0, c1, c2, c3, c4, rfl⟩ := list5 ((h.struct hu).1.trans (by kernel_rfl))
  obtain ⟨k, e0⟩ := (h.field hu 0 rfl (n := 1) (by kernel_rfl)).u8 Try.underlying5
  obtain ⟨a, e1, h1⟩ := (h.field hu 1 rfl (n := 1) (by kernel_rfl)).u64 Try.underlying30
  obtain ⟨b, c, e2, h2, h3⟩ := pos_rd (h.field hu 2 rfl (n := 2) (by kernel_rfl))
  obtain ⟨r, e4⟩ := (h.field hu 3 rfl (n := 1) (by kernel_rfl)).bool Try.underlying4
  simp at e0 e1 e2 e4
  obtain ⟨e2, e3⟩ := e2
  subst e0 e1 e2 e3 e4
  exact ⟨⟨k, a, b, c, r⟩, rfl, h1, h2, h3⟩
theorem laterNil_in (W : World) (base : Nat) (v0 : Value) (k0 : Value.okWide Try.prog W .any base 34 v0) (r0 : Rd Try.prog W 34 v0.cells.toList) :
    Calls Try.prog 6 #[v0] W fun e w' => e = .returned (.bool true) ∧ Below W.heap.size W w' := by
  obtain ⟨cs, rfl, hcs⟩ := in_struct Try.underlying34 k0
  rw [hcs] at r0
  obtain ⟨t, rfl, _⟩ := act_rd r0
  exact laterNil_any _ _ _ _ _ W
end Go.Proofs.Ytmkjcjdomechfaa
