/-
  LAYER 19: a map from places to times, in memory and in plain words.
-/
import Derived.Test.YtmkjcjdomechfaaLaterF
import Derived.Maps.OwnSet
import Derived.DeepKeys4
namespace Go.Proofs.Ytmkjcjdomechfaa
open Go Go.RowKit Go.WideShapes Go.Maps

theorem laidPos : laidOutB Try.prog = true := by kernel_rfl
theorem rowPos : (32 : TypeId) < Try.prog.types.size := of_decide_eq_true (by kernel_rfl)
theorem widePos : (match Try.prog.underlying 32 with | some (.array _ _) | some (.struct _) => true | _ => false) = true := by rw [Try.underlying32]
theorem lawPos : Keyed Try.prog 32 := Keyed.of_law (deep_law_laid laidPos (m := 2) (by omega) rowPos (by kernel_rfl) widePos)
theorem zero64 (w : World) : (zeroValue 30).run Try.prog w = .ok (.int .u64 0) w := by kernel_rfl
/-- What a place reads as. -/
def kl (a b : Nat) : Lit := .string (keyBytes [.int .u64 (a : Int), .int .u64 (b : Int)])
theorem wf64 {a : Nat} (h : a < 18446744073709551616) : (Lit.int .u64 (a : Int)).wf = true := by
  simp [Lit.wf, IntKind.min, IntKind.max, IntKind.signed, IntKind.bits]; omega
theorem key_lits (n : Nat) {a b : Nat} (ha : a < 18446744073709551616) (hb : b < 18446744073709551616) : Try.prog.keyLits (n + 2) 32 [.int .u64 (a : Int), .int .u64 (b : Int)] = some [.int .u64 (a : Int), .int .u64 (b : Int)] := by
  have h1 := wf64 ha
  have h2 := wf64 hb
  have c1 : Try.prog.cellsOf 32 = 2 := by kernel_rfl
  have c2 : Try.prog.cellsOf 30 = 1 := by kernel_rfl
  simp [Program.keyLits, Try.underlying32, Try.underlying30, c1, c2, h1, h2]
theorem key_of {a b : Nat} (ha : a < 18446744073709551616) (hb : b < 18446744073709551616) : keyOf Try.prog 32 (.agg #[.int .u64 (a : Int), .int .u64 (b : Int)]) = some (kl a b) := by
  have c1 : Try.prog.cellsOf 32 = 2 := by kernel_rfl
  have h1 : Try.prog.keyType 32 = true := by kernel_rfl
  have h2 : (Value.agg #[.int .u64 (a : Int), .int .u64 (b : Int)]).formed Try.prog 32 = true := by simp [Value.formed, Try.underlying32, c1]
  have h0 : 1 ≤ Try.prog.types.size := Nat.le_trans (by decide) (Nat.le_of_lt rowPos)
  have h3 : Try.prog.types.size + 1 = (Try.prog.types.size - 1) + 2 := by generalize Try.prog.types.size = s at *; omega
  unfold keyOf
  rw [Try.underlying32]
  simp only [h1, h2, Bool.and_self, if_true, h3]
  rw [show (Value.agg #[.int .u64 (a : Int), .int .u64 (b : Int)]).cells.toList = [.int .u64 (a : Int), .int .u64 (b : Int)] from rfl, key_lits _ ha hb]
  rfl
theorem kl_ne {a b c d : Nat} (ha : a < 18446744073709551616) (hb : b < 18446744073709551616) (hc : c < 18446744073709551616) (hd : d < 18446744073709551616) (h : ¬ (c = a ∧ d = b)) : kl c d ≠ kl a b := by
  intro e
  have h1 := key_of hc hd
  rw [e] at h1
  have := lawPos.inj h1 (key_of ha hb)
  simp at this
  exact h (by omega)
theorem kl_key (a b : Nat) : WideAt.IsKeyLit (kl a b) := trivial
/-- A map from places to times, at M. -/
def MapAt (w : World) (M n : Nat) (D : DataW Unit) : Prop := w.ownsMap Try.prog 32 (plainElem Try.prog 30) M n D
theorem MapAt.keep {w w' : World} {M n : Nat} {D : DataW Unit} (h : MapAt w M n D) {S : Nat → Prop} (hc : Chg S w w') (hS : ¬ S M) : MapAt w' M n D := by
  obtain ⟨es, clock, hb, r⟩ := h
  exact ⟨es, clock, hc.heap hb hS, r⟩
theorem MapAt.lt {w : World} {M n : Nat} {D : DataW Unit} (h : MapAt w M n D) : M < w.heap.size := by
  obtain ⟨es, clock, hb, r⟩ := h
  exact heap_lt hb
theorem turned_chg {w w' : World} {b : Nat} (h : w.mapTurned w' b) : Chg (· = b) w w' := by
  obtain ⟨es, clock, es', clock', hb, rfl⟩ := h
  exact ⟨rfl, rfl, rfl, by simp [ChangeMaps.setBlock], fun k _ hk => ChangeMaps.heap_setBlock_other hb _ hk⟩
/-- The map and the list tell the same. -/
structure Rep (D : DataW Unit) (l : List Wt) : Prop where
  has : ∀ a b, a < 18446744073709551616 → b < 18446744073709551616 → (Maps.has D (kl a b) = true ↔ ∃ e ∈ l, e.led = a ∧ e.ent = b)
  at_ : ∀ e ∈ l, D.atKey (kl e.led e.ent) (.lit (.int .u64 0)) = .lit (.int .u64 (e.at_ : Int))
  size : Maps.size D = l.length
  ok : ∀ e ∈ l, e.led < 18446744073709551616 ∧ e.ent < 18446744073709551616 ∧ e.at_ < 300
theorem Rep.nil : Rep (.map []) [] := ⟨fun a b _ _ => by simp [Maps.has], by simp, rfl, by simp⟩
theorem Rep.put {D : DataW Unit} {l : List Wt} (h : Rep D l) (hT : Tidy D) (ho : Once l) {a b t : Nat} (ha : a < 18446744073709551616) (hb : b < 18446744073709551616) (ht : t < 300) :
    Rep (D.put (kl a b) (.lit (.int .u64 (t : Int)))) (insL (dropL l a b).1 ⟨t, a, b⟩) := by
  have hg := dropL_gone ho a b
  refine ⟨fun c d hc hd => ?_, fun e he => ?_, ?_, fun e he => ?_⟩
  · by_cases hcd : c = a ∧ d = b
    · obtain ⟨rfl, rfl⟩ := hcd
      rw [has_put_same hT.isMap (kl_key _ _)]
      simp only [true_iff]
      exact ⟨_, insL_mem.2 (.inl rfl), rfl, rfl⟩
    · rw [has_put_other (kl_ne ha hb hc hd hcd), h.has c d hc hd]
      constructor
      · rintro ⟨e, he, rfl, rfl⟩
        refine ⟨e, insL_mem.2 (.inr (dropL_mem he ?_)), rfl, rfl⟩
        simp only [Wt.is, Bool.and_eq_false_iff, beq_eq_false_iff_ne]
        omega
      · rintro ⟨e, he, rfl, rfl⟩
        rcases insL_mem.1 he with rfl | he
        · exact absurd ⟨rfl, rfl⟩ hcd
        · exact ⟨e, (dropL_sub l a b).subset he, rfl, rfl⟩
  · rcases insL_mem.1 he with rfl | he
    · exact atKey_put_same hT.isMap (kl_key _ _) _ _
    · have hel := (dropL_sub l a b).subset he
      rw [atKey_put_other (kl_ne ha hb (h.ok e hel).1 (h.ok e hel).2.1 (hg e he))]
      exact h.at_ e hel
  · rw [size_put hT, insL_len]
    by_cases hh : Maps.has D (kl a b) = true
    · obtain ⟨e, he, h1, h2⟩ := (h.has a b ha hb).1 hh
      have := (dropL_true (a := a) (b := b) ⟨e, he, by simp [Wt.is, h1, h2]⟩).2
      rw [if_pos hh, h.size]; omega
    · have hn : dropL l a b = (l, false) := dropL_none (fun e he => by
        cases hx : e.is a b with
        | false => rfl
        | true =>
          simp [Wt.is] at hx
          exact absurd ((h.has a b ha hb).2 ⟨e, he, hx.1, hx.2⟩) hh)
      rw [if_neg hh, h.size, hn]
  · rcases insL_mem.1 he with rfl | he
    · exact ⟨ha, hb, ht⟩
    · exact h.ok e ((dropL_sub l a b).subset he)
theorem Rep.del {D : DataW Unit} {x : Wt} {l : List Wt} (h : Rep D (x :: l)) (hT : Tidy D) (ho : Once (x :: l)) : Rep (D.del (kl x.led x.ent)) l := by
  obtain ⟨hx1, hx2, _⟩ := h.ok x (by simp)
  have hn := (List.pairwise_cons.1 ho).1
  refine ⟨fun c d hc hd => ?_, fun e he => ?_, ?_, fun e he => h.ok e (by simp [he])⟩
  · by_cases hcd : c = x.led ∧ d = x.ent
    · obtain ⟨rfl, rfl⟩ := hcd
      rw [has_del_same]
      simp only [Bool.false_eq_true, false_iff]
      rintro ⟨e, he, h1, h2⟩
      exact hn e he ⟨h1.symm, h2.symm⟩
    · rw [has_del_other (kl_ne hx1 hx2 hc hd hcd), h.has c d hc hd]
      constructor
      · rintro ⟨e, he, rfl, rfl⟩
        rcases List.mem_cons.1 he with rfl | he
        · exact absurd ⟨rfl, rfl⟩ hcd
        · exact ⟨e, he, rfl, rfl⟩
      · rintro ⟨e, he, rfl, rfl⟩
        exact ⟨e, by simp [he], rfl, rfl⟩
  · have hel := h.ok e (by simp [he])
    rw [atKey_del_other (kl_ne hx1 hx2 hel.1 hel.2.1 (fun hc => hn e he ⟨hc.1.symm, hc.2.symm⟩))]
    exact h.at_ e (by simp [he])
  · have h1 := size_del (k := kl x.led x.ent) hT
    rw [if_pos ((h.has _ _ hx1 hx2).2 ⟨x, by simp, rfl, rfl⟩), h.size] at h1
    simp at h1
    exact h1
end Go.Proofs.Ytmkjcjdomechfaa
