/-
  LAYER 7: a book in memory, as sessions.
-/
import Derived.Test.YtgcldmmhfleggaaDelS
import Derived.Test.YtgcldmmhfleggaaOpen
import Derived.StillTailTactics
namespace Go.Proofs.Ytgcldmmhfleggaa
open Go Go.RowKit

def blk (o : Option Addr) : List Nat := (o.map (·.block)).toList
theorem mem_blk {o : Option Addr} {k : Nat} : k ∈ blk o ↔ ∃ a, o = some a ∧ a.block = k := by
  cases o <;> simp [blk, eq_comm]
/-- A book at block p: the last number, the sessions; F: its blocks. -/
def BookAt (w : World) (p : Nat) (last : Nat) (l : List Sess) (F : List Nat) : Prop :=
  ∃ lo n cap, w.heap[p]? = some (.cells #[.int .u64 (last : Int), .slice lo n cap] 62 (0, 0)) ∧ Own w 3 lo n cap (l.flatMap Sess.cells) ∧ p ∉ blk lo ∧ F = p :: blk lo
theorem BookAt.keep {w w' : World} {p last : Nat} {l : List Sess} {F : List Nat} (h : BookAt w p last l F) {S : Nat → Prop} (hc : Chg S w w') (hS : ∀ k ∈ F, ¬ S k) : BookAt w' p last l F := by
  obtain ⟨lo, n, cap, h1, h2, h3, rfl⟩ := h
  exact ⟨lo, n, cap, hc.heap h1 (hS p (by simp)), h2.keep hc (fun a ha => hS _ (List.mem_cons_of_mem _ (mem_blk.2 ⟨a, ha, rfl⟩))), h3, rfl⟩
theorem BookAt.lt {w : World} {p last : Nat} {l : List Sess} {F : List Nat} (h : BookAt w p last l F) : ∀ k ∈ F, k < w.heap.size := by
  obtain ⟨lo, n, cap, h1, h2, h3, rfl⟩ := h
  intro k hk
  rcases List.mem_cons.1 hk with rfl | hk
  · exact heap_lt h1
  · obtain ⟨a, ha, rfl⟩ := mem_blk.1 hk
    exact (h2.at_ a ha).2.1
theorem cells2 {w : World} {p : Nat} {a b : Value} {t : TypeId} (h : w.heap[p]? = some (.cells #[a, b] t (0, 0))) : w.cell? ⟨p, 0, none⟩ = some a ∧ w.cell? ⟨p, 1, none⟩ = some b ∧ ∀ i, w.frozen? ⟨p, i, none⟩ = false := by
  have h0 := heap_cell h 0
  have h1 := heap_cell h 1
  simp at h0 h1
  exact ⟨h0, h1, fun i => heap_frozen h i⟩
/-- When what is renewed now ends. -/
def endsOf (now life : Nat) : Nat := if 18446744073709551615 - life < now then 18446744073709551615 else now + life
theorem ends_any (now life : Nat) (w : World) (h1 : now < 18446744073709551616) (h2 : life < 18446744073709551616) :
    Calls Try.prog 25 #[.int .u64 (now : Int), .int .u64 (life : Int)] w fun e w' => e = .returned (.int .u64 (endsOf now life : Int)) ∧ w = w' := by
  have e1 := IntWalk.u64_in (18446744073709551615 - (life : Int)) (by omega)
  by_cases h : 18446744073709551615 - life < now
  · have hi : (18446744073709551615 : Int) - (life : Int) < (now : Int) := by omega
    have HE := Lib.hid (show endsOf now life = 18446744073709551615 from if_pos h)
    clear h
    go_enter Try.func25, Try.ntmps25
    go_wp2
    go_ret
    exact ⟨by rw [HE.out]; rfl, rfl⟩
  · have hi : ¬ (18446744073709551615 : Int) - (life : Int) < (now : Int) := by omega
    have e2 := IntWalk.u64_in ((now : Int) + (life : Int)) (by omega)
    have HE := Lib.hid (show endsOf now life = now + life from if_neg h)
    clear h
    go_enter Try.func25, Try.ntmps25
    go_wp2
    go_ret
    exact ⟨by rw [HE.out]; push_cast; rfl, rfl⟩
theorem endsOf_lt (now life : Nat) (h1 : now < 18446744073709551616) (_h2 : life < 18446744073709551616) : endsOf now life < 18446744073709551616 := by
  unfold endsOf; split <;> omega
theorem nat_beq (x y : Nat) : ((x : Int) == (y : Int)) = (x == y) := by
  rw [Bool.eq_iff_iff, beq_iff_eq, beq_iff_eq]; omega
/-! ### find -/
theorem find_by (id : Nat) (l : List Sess) (c : Nat) : DelBy Try.prog 34 #[.pointer (some ⟨c, 0, none⟩)] Sess.val (fun s => s.id == id) l (fun _ F w => F = [c] ∧ w.heap[c]? = some (.cells #[.int .u64 (id : Int)] 28 (0, 0))) := by
  refine DelBy.pure l c _ _ (fun _ _ => rfl) ?_
  intro e w hc
  obtain ⟨x0, x1, x2⟩ := e
  have hc' := heap_new (o := .cells #[.int .u64 (x0 : Int), .int .u64 (x1 : Int), .int .u64 (x2 : Int)] 48) hc
  obtain ⟨z0, _⟩ := cells1 hc'
  show Calls Try.prog 34 #[.agg #[.int .u64 (x0 : Int), .int .u64 (x1 : Int), .int .u64 (x2 : Int)], .pointer (some ⟨c, 0, none⟩)] w _
  clear hc hc'
  go_enter Try.func34, Try.ntmps34
  go_wp2
  go_ret
  refine ⟨?_, (Below.refl _ w).alloc (Nat.le_refl _) _⟩
  show Ending.returned (.bool ((x0 : Int) == (id : Int))) = .returned (.bool (x0 == id))
  rw [nat_beq]
theorem find_none (p last id : Nat) (l : List Sess) (F : List Nat) (w : World) (h : BookAt w p last l F) (hl : l.length ≤ 1000000) (hno : ∀ e ∈ l, e.id ≠ id) :
    Calls Try.prog 26 #[.pointer (some ⟨p, 0, none⟩), .int .u64 (id : Int)] w fun e w' => e = .returned (.int .i64 (-1)) ∧ Below w.heap.size w w' := by
  obtain ⟨lo, n, cap, h1, h2, h3, rfl⟩ := h
  have hA := (Chg.refl (fun _ => False) w).alloc (.cells #[.int .u64 (id : Int)] 28)
  have hn := fl_own_len el_e h2
  have HI := Lib.hid (index_none lo n cap l [w.heap.size] _ (h2.keep hA (fun _ _ h => h)) (find_by id l w.heap.size) ⟨rfl, heap_top w _⟩ (fun a ha hk => by have := (h2.at_ a ha).2.1; rw [List.mem_singleton] at hk; omega) (by omega) (fun e he => by simp [hno e he]))
  have hmf : ∀ (fn : Fn) (first cap : Array Value) (w : World), (Instr.makeFunc fn first cap).run Try.prog w = .ok (.func fn first cap) w := fun _ _ _ _ => rfl
  obtain ⟨z0, z1, z2⟩ := cells2 (hA.heap h1 (fun h => h))
  clear h1 h2 h3 hA hno
  go_enter Try.func26, Try.ntmps26
  go_wp2_with (go_at_call 33; (with_reducible refine HI.out.mono ?_); rintro r w1 ⟨F1, rfl, hc, hg, hs⟩; have H1 := Lib.hid hc; clear hc hg hs)
  go_ret
  exact ⟨rfl, ((Below.refl _ w).alloc (Nat.le_refl _) _).trans (H1.out.below (by rw [size_alloc]; omega) (fun k hk => by rw [List.mem_singleton] at hk; omega))⟩
theorem find_some (p last id i : Nat) (e : Sess) (l : List Sess) (F : List Nat) (w : World) (h : BookAt w p last l F) (hl : l.length ≤ 1000000) (he : l[i]? = some e) (hid : e.id = id) (hno : ∀ e ∈ l.take i, e.id ≠ id) :
    Calls Try.prog 26 #[.pointer (some ⟨p, 0, none⟩), .int .u64 (id : Int)] w fun e w' => e = .returned (.int .i64 (i : Int)) ∧ Below w.heap.size w w' := by
  obtain ⟨lo, n, cap, h1, h2, h3, rfl⟩ := h
  have hA := (Chg.refl (fun _ => False) w).alloc (.cells #[.int .u64 (id : Int)] 28)
  have hn := fl_own_len el_e h2
  have HI := Lib.hid (index_some lo n cap l [w.heap.size] _ (h2.keep hA (fun _ _ h => h)) (find_by id l w.heap.size) ⟨rfl, heap_top w _⟩ (fun a ha hk => by have := (h2.at_ a ha).2.1; rw [List.mem_singleton] at hk; omega) (by omega) he (by simp [hid]) (fun e he => by simp [hno e he]))
  have hmf : ∀ (fn : Fn) (first cap : Array Value) (w : World), (Instr.makeFunc fn first cap).run Try.prog w = .ok (.func fn first cap) w := fun _ _ _ _ => rfl
  obtain ⟨z0, z1, z2⟩ := cells2 (hA.heap h1 (fun h => h))
  clear h1 h2 h3 hA hno he hid
  go_enter Try.func26, Try.ntmps26
  go_wp2_with (go_at_call 33; (with_reducible refine HI.out.mono ?_); rintro r w1 ⟨F1, rfl, hc, hg, hs⟩; have H1 := Lib.hid hc; clear hc hg hs)
  go_ret
  exact ⟨rfl, ((Below.refl _ w).alloc (Nat.le_refl _) _).trans (H1.out.below (by rw [size_alloc]; omega) (fun k hk => by rw [List.mem_singleton] at hk; omega))⟩
/-! ### live -/
def liveL : List Sess → Nat → Nat → Bool
  | [], _, _ => false
  | e :: l, id, now => if e.id = id then decide (now < e.ends) else liveL l id now
theorem liveL_none {l : List Sess} {id now : Nat} (h : ∀ e ∈ l, e.id ≠ id) : liveL l id now = false := by
  induction l with
  | nil => rfl
  | cons e l ih => rw [liveL, if_neg (h e (by simp)), ih (fun x hx => h x (by simp [hx]))]
theorem liveL_some {l : List Sess} {id now i : Nat} {e : Sess} (he : l[i]? = some e) (hid : e.id = id) (h : ∀ y ∈ l.take i, y.id ≠ id) : liveL l id now = decide (now < e.ends) := by
  induction l generalizing i with
  | nil => simp at he
  | cons x l ih =>
    cases i with
    | zero => simp at he; subst he; rw [liveL, if_pos hid]
    | succ i =>
      rw [List.take_succ_cons] at h
      rw [liveL, if_neg (h x (by simp))]
      exact ih (by simpa using he) (fun y hy => h y (by simp [hy]))
theorem who (l : List Sess) (id : Nat) : (∀ e ∈ l, e.id ≠ id) ∨ ∃ (i : Nat) (e : Sess), l[i]? = some e ∧ e.id = id ∧ ∀ y ∈ l.take i, y.id ≠ id := by
  rcases first_of (fun s => s.id == id) l with h | ⟨i, x, h1, h2, h3⟩
  · exact .inl (fun e he => by have := h e he; simpa using this)
  · exact .inr ⟨i, x, h1, by simpa using h2, fun y hy => by have := h3 y hy; simpa using this⟩
theorem live_any (p last id now : Nat) (l : List Sess) (F : List Nat) (w : World) (h : BookAt w p last l F) (hl : l.length ≤ 1000000) :
    Calls Try.prog 11 #[.pointer (some ⟨p, 0, none⟩), .int .u64 (id : Int), .int .u64 (now : Int)] w fun e w' => e = .returned (.bool (liveL l id now)) ∧ Below w.heap.size w w' := by
  rcases who l id with hno | ⟨i, e, he, hid, hno⟩
  · have HF := Lib.hid (find_none p last id l F w h hl hno)
    have HL := Lib.hid (liveL_none (now := now) hno)
    clear h hno
    go_enter Try.func11, Try.ntmps11
    go_wp2_with (go_at_call 26; (with_reducible refine HF.out.mono ?_); rintro r w1 ⟨rfl, hb⟩; have H1 := Lib.hid hb; clear hb)
    go_ret
    exact ⟨by rw [HL.out]; rfl, H1.out⟩
  · have HF := Lib.hid (find_some p last id i e l F w h hl he hid hno)
    have HL := Lib.hid (liveL_some (now := now) he hid hno)
    have HB := Lib.hid h
    obtain ⟨lo, n, cap, h1, h2, h3, hF⟩ := h
    have hn := fl_own_len el_e h2
    have hi : (i : Int) < (n : Int) := by have := (List.getElem?_eq_some_iff.1 he).1; omega
    obtain ⟨b, off, rfl, _⟩ := el_at h2 he
    have HX := Lib.hid (And.intro h1 (And.intro h2 he))
    obtain ⟨x0, x1, x2⟩ := e
    clear h1 h2 h3 hF he hid hno
    go_enter Try.func11, Try.ntmps11
    go_wp2_with (go_at_call 26; (with_reducible refine HF.out.mono ?_); rintro r w1 ⟨rfl, hb⟩; have hC := Chg.of_below hb (fun _ => False); obtain ⟨z0, z1, z2⟩ := cells2 (hC.heap HX.out.1 (fun h => h)); obtain ⟨b', off', hlo, hcs⟩ := el_at (HX.out.2.1.keep hC (fun _ _ h => h)) HX.out.2.2; cases hlo; obtain ⟨c0, c1, c2, _⟩ := hcs _ _ _ rfl; have H1 := Lib.hid hb; clear hb hC hcs)
    go_ret
    exact ⟨by rw [HL.out]; rfl, H1.out⟩
end Go.Proofs.Ytgcldmmhfleggaa
