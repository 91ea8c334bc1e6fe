/-
  LAYER 19: a list in memory; find, Drop, All.
-/
import Derived.Test.YtmkjcjdomechfaaLater
namespace Go.Proofs.Ytmkjcjdomechfaa
open Go Go.RowKit

def blk (o : Option Addr) : List Nat := match o with | none => [] | some a => [a.block]
theorem mem_blk {o : Option Addr} {k : Nat} : k ∈ blk o ↔ ∃ a, o = some a ∧ a.block = k := by
  cases o with
  | none => simp [blk]
  | some a => simp [blk, eq_comm]
/-- A list of places that wait, at p; F: its blocks. -/
def ListAt (w : World) (p : Nat) (l : List Wt) (F : List Nat) : Prop :=
  ∃ lo n cap, w.heap[p]? = some (.cells #[.slice lo n cap] 55 (0, 0)) ∧ Own w 3 lo n cap (l.flatMap Wt.cells) ∧ p ∉ blk lo ∧ F = p :: blk lo
theorem ListAt.keep {w w' : World} {p : Nat} {l : List Wt} {F : List Nat} (h : ListAt w p l F) {S : Nat → Prop} (hc : Chg S w w') (hS : ∀ k ∈ F, ¬ S k) : ListAt w' p l F := by
  obtain ⟨lo, n, cap, h1, h2, h3, rfl⟩ := h
  exact ⟨lo, n, cap, hc.heap h1 (hS p (by simp)), h2.keep hc (fun a ha => hS _ (List.mem_cons_of_mem _ (mem_blk.2 ⟨a, ha, rfl⟩))), h3, rfl⟩
theorem ListAt.lt {w : World} {p : Nat} {l : List Wt} {F : List Nat} (h : ListAt w p l F) : ∀ k ∈ F, k < w.heap.size := by
  obtain ⟨lo, n, cap, h1, h2, h3, rfl⟩ := h
  intro k hk
  rcases List.mem_cons.1 hk with rfl | hk
  · exact heap_lt h1
  · obtain ⟨a, ha, rfl⟩ := mem_blk.1 hk
    exact (h2.at_ a ha).2.1
def Wrote (w w' : World) (p : Nat) (l : List Wt) (F : List Nat) : Prop := ∃ F', ListAt w' p l F' ∧ Chg (· ∈ F) w w' ∧ ∀ k ∈ F', k ∈ F ∨ w.heap.size ≤ k
theorem Wrote.same {w w' : World} {p : Nat} {l : List Wt} {F : List Nat} (h : ListAt w p l F) (hb : Below w.heap.size w w') : Wrote w w' p l F :=
  ⟨F, h.keep (Chg.of_below hb (fun _ => False)) (fun _ _ h => h), Chg.of_below hb _, fun _ h => .inl h⟩
/-- One that only reads, of a box of whatever form. -/
theorem DelBy.pure' {E : Type} {P : Program} {f : Nat} {caps : Array Value} {val : E → Value} {pr : E → Bool} (es : List E) (c : Nat) (o : Obj) (fn : ∀ args w, (callFunc f args).run P w = .ok (.enter f args) w)
    (h : ∀ e w, w.heap[c]? = some o → Calls P f (#[val e] ++ caps) w fun r w2 => r = .returned (.bool (pr e)) ∧ Below w.heap.size w w2) :
    DelBy P f caps val pr es (fun _ F w => F = [c] ∧ w.heap[c]? = some o) := by
  refine ⟨fn, ?_, ?_, ?_⟩
  · rintro l e F w1 _ ⟨rfl, hc⟩
    refine (h e w1 hc).mono ?_
    rintro r w2 ⟨rfl, hb⟩
    exact ⟨rfl, [c], ⟨rfl, (Chg.of_below hb (fun _ => False)).heap hc (fun h => h)⟩, Chg.of_below hb _, fun k hk => .inl hk⟩
  · rintro l F S w1 w2 ⟨rfl, hc⟩ hch hS
    exact ⟨rfl, hch.heap hc (hS c (by simp))⟩
  · rintro l F w ⟨rfl, hc⟩ k hk
    rw [List.mem_singleton] at hk
    subst hk
    exact heap_lt hc
theorem nat_beq (x y : Nat) : ((x : Int) == (y : Int)) = (x == y) := by
  rw [Bool.eq_iff_iff]; simp only [beq_iff_eq]; omega
/-- Is it at this place? -/
def Wt.is (x : Wt) (a b : Nat) : Bool := x.led == a && x.ent == b
theorem find_by (a b : Nat) (l : List Wt) (c : Nat) : DelBy Try.prog 31 #[.pointer (some ⟨c, 0, none⟩)] Wt.val (fun s => s.is a b) l (fun _ F w => F = [c] ∧ w.heap[c]? = some (.cells #[.int .u64 (a : Int), .int .u64 (b : Int)] 32 (0, 0))) := by
  refine DelBy.pure' l c _ (fun _ _ => rfl) ?_
  intro e w hc
  obtain ⟨x0, x1, x2⟩ := e
  have hc' := heap_new (o := .cells #[.int .u64 (x0 : Int), .int .u64 (x1 : Int), .int .u64 (x2 : Int)] 45) hc
  obtain ⟨z0, z1, _⟩ := cells2 hc'
  show Calls Try.prog 31 #[.agg #[.int .u64 (x0 : Int), .int .u64 (x1 : Int), .int .u64 (x2 : Int)], .pointer (some ⟨c, 0, none⟩)] w _
  clear hc hc'
  by_cases h1 : x1 = a
  · subst h1
    by_cases h2 : x2 = b
    · subst h2
      go_enter Try.func31, Try.ntmps31
      go_wp2
      go_ret
      exact ⟨by simp [Wt.is], (Below.refl _ w).alloc (Nat.le_refl _) _⟩
    · have h2i : ¬ (x2 : Int) = (b : Int) := by omega
      have h2b : (x2 == b) = false := by simpa using h2
      go_enter Try.func31, Try.ntmps31
      go_wp2
      go_ret
      exact ⟨by simp [Wt.is, h2b], (Below.refl _ w).alloc (Nat.le_refl _) _⟩
  · have h1i : ¬ (x1 : Int) = (a : Int) := by omega
    have h1b : (x1 == a) = false := by simpa using h1
    go_enter Try.func31, Try.ntmps31
    go_wp2
    go_ret
    exact ⟨by simp [Wt.is, h1b], (Below.refl _ w).alloc (Nat.le_refl _) _⟩
theorem find_none (p a b : Nat) (l : List Wt) (F : List Nat) (w : World) (h : ListAt w p l F) (hl : l.length ≤ 1000000) (hno : ∀ e ∈ l, e.is a b = false) :
    Calls Try.prog 23 #[.pointer (some ⟨p, 0, none⟩), .agg #[.int .u64 (a : Int), .int .u64 (b : Int)]] w fun e w' => e = .returned (.int .i64 (-1)) ∧ Below w.heap.size w w' := by
  obtain ⟨lo, n, cap, h1, h2, h3, rfl⟩ := h
  have hA := (Chg.refl (fun _ => False) w).alloc (.cells #[.int .u64 (a : Int), .int .u64 (b : Int)] 32)
  have hn := fl_own_len el_e h2
  have HI := Lib.hid (index_none lo n cap l [w.heap.size] _ (h2.keep hA (fun _ _ h => h)) (find_by a b l w.heap.size) ⟨rfl, heap_top w _⟩ (fun a ha hk => by have := (h2.at_ a ha).2.1; rw [List.mem_singleton] at hk; omega) (by omega) hno)
  have hmf : ∀ (fn : Fn) (first cap : Array Value) (w : World), (Instr.makeFunc fn first cap).run Try.prog w = .ok (.func fn first cap) w := fun _ _ _ _ => rfl
  obtain ⟨z0, z2⟩ := cells1 (hA.heap h1 (fun h => h))
  clear h1 h2 h3 hA hno
  go_enter Try.func23, Try.ntmps23
  go_wp2_with (go_at_call 30; (with_reducible refine HI.out.mono ?_); rintro r w1 ⟨F1, rfl, hc, hg, hs⟩; have H1 := Lib.hid hc; clear hc hg hs)
  go_ret
  exact ⟨rfl, ((Below.refl _ w).alloc (Nat.le_refl _) _).trans (H1.out.below (by rw [size_alloc]; omega) (fun k hk => by rw [List.mem_singleton] at hk; omega))⟩
theorem find_some (p a b i : Nat) (e : Wt) (l : List Wt) (F : List Nat) (w : World) (h : ListAt w p l F) (hl : l.length ≤ 1000000) (he : l[i]? = some e) (hid : e.is a b = true) (hno : ∀ e ∈ l.take i, e.is a b = false) :
    Calls Try.prog 23 #[.pointer (some ⟨p, 0, none⟩), .agg #[.int .u64 (a : Int), .int .u64 (b : Int)]] w fun e w' => e = .returned (.int .i64 (i : Int)) ∧ Below w.heap.size w w' := by
  obtain ⟨lo, n, cap, h1, h2, h3, rfl⟩ := h
  have hA := (Chg.refl (fun _ => False) w).alloc (.cells #[.int .u64 (a : Int), .int .u64 (b : Int)] 32)
  have hn := fl_own_len el_e h2
  have HI := Lib.hid (index_some lo n cap l [w.heap.size] _ (h2.keep hA (fun _ _ h => h)) (find_by a b l w.heap.size) ⟨rfl, heap_top w _⟩ (fun a ha hk => by have := (h2.at_ a ha).2.1; rw [List.mem_singleton] at hk; omega) (by omega) he hid hno)
  have hmf : ∀ (fn : Fn) (first cap : Array Value) (w : World), (Instr.makeFunc fn first cap).run Try.prog w = .ok (.func fn first cap) w := fun _ _ _ _ => rfl
  obtain ⟨z0, z2⟩ := cells1 (hA.heap h1 (fun h => h))
  clear h1 h2 h3 hA hno he hid
  go_enter Try.func23, Try.ntmps23
  go_wp2_with (go_at_call 30; (with_reducible refine HI.out.mono ?_); rintro r w1 ⟨F1, rfl, hc, hg, hs⟩; have H1 := Lib.hid hc; clear hc hg hs)
  go_ret
  exact ⟨rfl, ((Below.refl _ w).alloc (Nat.le_refl _) _).trans (H1.out.below (by rw [size_alloc]; omega) (fun k hk => by rw [List.mem_singleton] at hk; omega))⟩
/-! ### Drop -/
set_option maxHeartbeats 1000000 in
theorem delete_any (b off n n1 cap : Nat) (es : List Wt) (I J : Int) (i : Nat) (w : World) (h : Own w 3 (some ⟨b, off, none⟩) n cap (es.flatMap Wt.cells)) (hes : es.length = n) (hn : n ≤ 4096) (hn1 : n = n1 + 1) (hI : I = (i : Int)) (hJ : J = ((i + 1 : Nat) : Int)) (hi : i < n) :
    Calls Try.prog 24 #[.slice (some ⟨b, off, none⟩) n cap, .int .i64 I, .int .i64 J] w fun e w' => e = .returned (.slice (some ⟨b, off, none⟩) n1 cap) ∧ Own w' 3 (some ⟨b, off, none⟩) n1 cap ((es.eraseIdx i).flatMap Wt.cells) ∧ Chg (· = b) w w' := by
  subst hI; subst hJ
  have hcap := h.le
  have hmax := h.max
  have HO := Lib.hid (show Own w.drew 3 (some ⟨b, off, none⟩) i cap ((es.take i).flatMap Wt.cells) by rw [← fl_take el_e]; exact (h.cut (by omega) (by omega) (Nat.le_refl _)).drew)
  obtain ⟨A, hA⟩ : ∃ A : Option Addr, (if cap = i + 1 then some (⟨b, off, none⟩ : Addr) else some ⟨b, off + (i + 1) * 3, none⟩) = A := ⟨_, rfl⟩
  have HR := Lib.hid (show Row w.drew A _ by rw [← hA]; exact (fl_row el_e h hes (i + 1)).drew)
  have HL := Lib.hid (show ((es.drop (i + 1)).flatMap Wt.cells).length = (n - (i + 1)) * 3 by rw [fl_len el_e, List.length_drop, hes])
  have HN := Lib.hid (show i + (n - (i + 1)) = n1 by omega)
  have HE := Lib.hid (show (es.take i).flatMap Wt.cells ++ (es.drop (i + 1)).flatMap Wt.cells = (es.eraseIdx i).flatMap Wt.cells by rw [← List.flatMap_append, List.eraseIdx_eq_take_drop_succ])
  have HD := Lib.hid hn1
  clear h hes hn1
  have hic : i ≤ cap := by omega
  have hic' : (i : Int) ≤ (cap : Int) := by omega
  have hp0 : (0 : Int) ≤ (i : Int) + 1 := by omega
  have hp1 : (i : Int) + 1 ≤ (n : Int) := by omega
  have hp2 : ((i : Int) + 1).toNat = i + 1 := by omega
  have hp3 : (n : Int) ≤ (cap : Int) := by omega
  have hroom : i + (n - (i + 1)) ≤ cap := by omega
  have hbytes : (i + (n - (i + 1))) * 24 ≤ 140737488355328 := by omega
  go_enter Try.func24, Try.ntmps24
  go_wp2
  go_region_law (refine step_append_in rfl (.tmp 22) (.tmp 25) el_s rfl (c := cap - (i + 1)) ?hs ?hx HO.out HL.out HR.out (fl_one el_e _) hroom hbytes ?_; (case hs => simp [Act.eval, Act.put]); (case hx => simp [Act.eval, Act.put]); rw [HN.out, HE.out]; intro w2 hx hch; have H2 := Lib.hid (And.intro hx hch); clear hx hch)
  have g1 : (n1 : Int) ≤ (n : Int) := by have := HD.out; omega
  have g2 : ¬ cap = n1 := by have := HD.out; omega
  have g3 : n1 ≤ n := by have := HD.out; omega
  have g4 : 0 < n - n1 := by have := HD.out; omega
  have g5 : n1 + (n - n1) ≤ cap := by have := HD.out; omega
  go_wp2_with (refine wpList_clear' rfl (.tmp 31) el_s rfl rfl rfl H2.out.1 g4 g5 zero_one' ?_; intro w3 hx hch; have H3 := Lib.hid (And.intro hx hch); clear hx hch)
  all_goals (
    go_ret
    exact ⟨rfl, H3.out.1, ((Chg.refl (· = b) w).drew.trans H2.out.2 (by rintro i _ ⟨a, ha, e⟩; cases ha; exact e.symm)).trans H3.out.2 (fun _ _ h => h)⟩)
def dropL : List Wt → Nat → Nat → List Wt × Bool
  | [], _, _ => ([], false)
  | e :: l, a, b => if e.is a b then (l, true) else (e :: (dropL l a b).1, (dropL l a b).2)
theorem dropL_none {l : List Wt} {a b : Nat} (h : ∀ e ∈ l, e.is a b = false) : dropL l a b = (l, false) := by
  induction l with
  | nil => rfl
  | cons e l ih => rw [dropL, h e (by simp), ih (fun x hx => h x (by simp [hx]))]; rfl
theorem dropL_some : ∀ {l : List Wt} {a b i : Nat} {e : Wt}, l[i]? = some e → e.is a b = true → (∀ y ∈ l.take i, y.is a b = false) → dropL l a b = (l.eraseIdx i, true)
  | [], _, _, _, _, he, _, _ => by simp at he
  | x :: l, a, b, 0, e, he, hid, _ => by simp at he; subst he; rw [dropL, if_pos hid]; rfl
  | x :: l, a, b, i + 1, e, he, hid, h => by
    rw [dropL, h x (by simp), dropL_some (l := l) (i := i) (by simpa using he) hid (fun y hy => h y (by simp [hy]))]; rfl
set_option maxHeartbeats 1000000 in
theorem drop_none (p a b : Nat) (l : List Wt) (F : List Nat) (w : World) (h : ListAt w p l F) (hl : l.length ≤ 1000000) (hno : ∀ e ∈ l, e.is a b = false) :
    Calls Try.prog 12 #[.pointer (some ⟨p, 0, none⟩), .agg #[.int .u64 (a : Int), .int .u64 (b : Int)]] w fun r w' => r = .returned (.bool false) ∧ Below w.heap.size w w' := by
  obtain ⟨y0, y1, _⟩ := cells2 (heap_top w (.cells #[.int .u64 (a : Int), .int .u64 (b : Int)] 32))
  have HA := Lib.hid ((Below.refl _ w).alloc (Nat.le_refl _) (.cells #[.int .u64 (a : Int), .int .u64 (b : Int)] 32))
  have HF := Lib.hid (find_none p a b l F _ (h.keep (Chg.of_below HA.out (fun _ => False)) (fun _ _ h => h)) hl hno)
  clear h
  go_enter Try.func12, Try.ntmps12
  go_wp2_with (go_at_call 23; (with_reducible refine HF.out.mono ?_); rintro r w1 ⟨rfl, hb⟩; have H1 := Lib.hid (HA.out.trans (hb.mono HA.out.size)); clear hb)
  go_ret
  exact ⟨rfl, H1.out⟩
set_option maxHeartbeats 1000000 in
theorem drop_some (p a b i : Nat) (e : Wt) (l : List Wt) (F : List Nat) (w : World) (h : ListAt w p l F) (hl : l.length ≤ 4096) (he : l[i]? = some e) (hid : e.is a b = true) (hno : ∀ e ∈ l.take i, e.is a b = false) :
    Calls Try.prog 12 #[.pointer (some ⟨p, 0, none⟩), .agg #[.int .u64 (a : Int), .int .u64 (b : Int)]] w fun r w' => r = .returned (.bool true) ∧ Wrote w w' p (l.eraseIdx i) F := by
  obtain ⟨y0, y1, _⟩ := cells2 (heap_top w (.cells #[.int .u64 (a : Int), .int .u64 (b : Int)] 32))
  have HA := Lib.hid ((Below.refl _ w).alloc (Nat.le_refl _) (.cells #[.int .u64 (a : Int), .int .u64 (b : Int)] 32))
  have HF := Lib.hid (find_some p a b i e l F _ (h.keep (Chg.of_below HA.out (fun _ => False)) (fun _ _ h => h)) (by omega) he hid hno)
  obtain ⟨lo, n, cap, h1, h2, h3, hF⟩ := h
  have hn := fl_own_len el_e h2
  obtain ⟨bb, off, rfl, _⟩ := el_at h2 he
  have hin : i < n := by rw [← hn]; exact (List.getElem?_eq_some_iff.1 he).1
  obtain ⟨n1, hn1⟩ : ∃ n1, n = n1 + 1 := ⟨n - 1, by omega⟩
  have hii : ((i : Int)) < (n : Int) := by omega
  have hn4 : n ≤ 4096 := by omega
  have HD := Lib.hid (fun w1 (ho : Own w1 3 (some ⟨bb, off, none⟩) n cap (l.flatMap Wt.cells)) => delete_any bb off n n1 cap l (i : Int) ((i : Int) + 1) i w1 ho hn hn4 hn1 rfl (by omega) hin)
  have hpb : p ≠ bb := fun e => h3 (mem_blk.2 ⟨_, rfl, e.symm⟩)
  have HX := Lib.hid (And.intro h1 (And.intro h2 (And.intro h3 (And.intro hF hpb))))
  clear h1 h2 h3 hF he hid hno hn hn1 hpb
  go_enter Try.func12, Try.ntmps12
  go_wp2_with (first
    | (go_at_call 23; (with_reducible refine HF.out.mono ?_); rintro r w1 ⟨rfl, hb⟩; have hb' := HA.out.trans (hb.mono HA.out.size); have hC := Chg.of_below hb' (fun _ => False); have hp1 := hC.heap HX.out.1 (fun h => h); obtain ⟨z0, z2⟩ := cells1 hp1; have H1 := Lib.hid (And.intro hb' (And.intro hp1 (HX.out.2.1.keep hC (fun _ _ h => h)))); clear hb hb' hC hp1)
    | (go_at_call 24; (with_reducible refine (HD.out _ H1.out.2.2).mono ?_); rintro r w2 ⟨rfl, ho, hc⟩; have hp2 := hc.heap H1.out.2.1 HX.out.2.2.2.2; obtain ⟨y0, y2⟩ := cells1 hp2; have H2 := Lib.hid (And.intro ho (And.intro hc hp2)); clear ho hc hp2))
  go_ret
  have hs := Chg.one w2 p 0 (.slice (some ⟨bb, off, none⟩) n1 cap)
  have hF := HX.out.2.2.2.1
  refine ⟨rfl, F, ⟨some ⟨bb, off, none⟩, n1, cap, heap_set H2.out.2.2 0 _, H2.out.1.keep hs (fun a ha e => by cases ha; exact HX.out.2.2.2.2 e.symm), HX.out.2.2.1, hF⟩, ?_, fun _ h => .inl h⟩
  refine ((Chg.of_below H1.out.1 (· ∈ F)).trans H2.out.2.1 (fun k _ h => ?_)).set (by rw [hF]; simp) 0 _
  rw [hF, h]; exact List.mem_cons_of_mem _ (mem_blk.2 ⟨_, rfl, rfl⟩)
theorem who (l : List Wt) (a b : Nat) : (∀ e ∈ l, e.is a b = false) ∨ ∃ (i : Nat) (e : Wt), l[i]? = some e ∧ e.is a b = true ∧ ∀ y ∈ l.take i, y.is a b = false := first_of (fun e => e.is a b) l
theorem drop_all (p a b : Nat) (l : List Wt) (F : List Nat) (w : World) (h : ListAt w p l F) (hl : l.length ≤ 4096) :
    Calls Try.prog 12 #[.pointer (some ⟨p, 0, none⟩), .agg #[.int .u64 (a : Int), .int .u64 (b : Int)]] w fun r w' => r = .returned (.bool (dropL l a b).2) ∧ Wrote w w' p (dropL l a b).1 F := by
  rcases who l a b with h1 | ⟨i, e, he, hid, hno⟩
  · rw [dropL_none h1]
    refine (drop_none p a b l F w h (by omega) h1).mono ?_
    rintro e w' ⟨rfl, hb⟩
    exact ⟨rfl, .same h hb⟩
  · rw [dropL_some he hid hno]
    exact drop_some p a b i e l F w h hl he hid hno
/-! ### All -/
theorem clone_row (ao : Option Addr) (n c : Nat) (l : List Wt) (w : World) (h : Row w ao (l.flatMap Wt.cells)) (hl : l.length = n) (hn : n ≤ 1000000) :
    Calls Try.prog 25 #[.slice ao n c] w fun e w' => ∃ xo xc, e = .returned (.slice xo n xc) ∧ Below w.heap.size w w' ∧ Own w' 3 xo n xc (l.flatMap Wt.cells) ∧ ∀ a, xo = some a → w.heap.size ≤ a.block := by
  cases ao with
  | none =>
    have h0 : l = [] := by
      cases l with
      | nil => rfl
      | cons e l =>
        obtain ⟨_, _, h1, _⟩ := h (by simp [Wt.cells])
        cases h1
    subst h0
    obtain rfl : n = 0 := hl.symm
    have q := Lib.run_eql_slice_nil (P := Try.prog) w 27 45 none 0 c 0 0 Try.underlying27
    go_enter Try.func25, Try.ntmps25
    go_wp2
    go_ret
    exact ⟨none, 0, rfl, Below.refl _ _, Own.nil' _ _, fun _ h => (nomatch h)⟩
  | some a =>
    have q := Lib.run_eql_slice_nil (P := Try.prog) w 27 45 (some a) n c 0 0 Try.underlying27
    have HC := Lib.hid (And.intro h (show (l.flatMap Wt.cells).length = n * 3 by rw [fl_len el_e, hl]))
    clear h hl
    go_enter Try.func25, Try.ntmps25
    go_wp2_with (at_builtin; refine wpList_append' rfl (.tmp 5) (.tmp 6) el_s rfl rfl rfl (Own.alloc0 _ 3 _ _) HC.out.2 (HC.out.1.below ((Below.refl _ w).alloc (Nat.le_refl _) _)) (fl_one el_e l) (by unfold maxLen; omega) (by omega) ?_; intro xo xc w2 hx hch _ hx2; simp only [Nat.zero_add, List.nil_append] at hx; have H2 := Lib.hid (And.intro (chg_new (Below.refl _ _) hch) (And.intro hx (new_blk (Below.refl _ w) hx2))); clear hx hch hx2)
    go_ret
    exact ⟨xo, xc, rfl, H2.out⟩
theorem all_any (p : Nat) (l : List Wt) (F : List Nat) (w : World) (h : ListAt w p l F) (hl : l.length ≤ 1000000) :
    Calls Try.prog 17 #[.pointer (some ⟨p, 0, none⟩)] w fun e w' => ∃ xo xc, e = .returned (.slice xo l.length xc) ∧ Below w.heap.size w w' ∧ Own w' 3 xo l.length xc (l.flatMap Wt.cells) := by
  obtain ⟨lo, n, cap, h1, h2, h3, hF⟩ := h
  have hn := fl_own_len el_e h2
  subst hn
  obtain ⟨z0, z2⟩ := cells1 h1
  have HCL := Lib.hid (clone_row lo l.length cap l w h2.row rfl (by omega))
  clear h1 h2 h3 hF
  generalize l.length = n at *
  go_enter Try.func17, Try.ntmps17
  go_wp2_with (go_at_call 25; (with_reducible refine HCL.out.mono ?_); rintro e1 w1 ⟨xo, xc, rfl, hb, ho, _⟩; have H1 := Lib.hid (And.intro hb ho); clear hb ho)
  go_ret
  exact ⟨xo, xc, rfl, H1.out⟩
theorem new_any (w : World) : Calls Try.prog 8 #[] w fun e w' => e = .returned (.pointer (some ⟨w.heap.size, 0, none⟩)) ∧ Below w.heap.size w w' ∧ ListAt w' w.heap.size [] [w.heap.size] := by
  go_enter Try.func8, Try.ntmps8
  go_wp2
  go_ret
  exact ⟨rfl, (Below.refl _ w).alloc (Nat.le_refl _) _, none, 0, 0, heap_top w _, Own.nil' _ _, by simp [blk], rfl⟩
end Go.Proofs.Ytmkjcjdomechfaa
