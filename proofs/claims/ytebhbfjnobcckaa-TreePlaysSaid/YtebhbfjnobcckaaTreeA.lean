/-
  LAYER 6: how keys stand to one another; a tree in memory; find.
-/
import Derived.Test.YtebhbfjnobcckaaNd
import Derived.Test.YtebhbfjnobcckaaBsN
import Derived.Test.YtebhbfjnobcckaaInsN
import Derived.Lib.Bytealg
namespace Go.Proofs.Ytebhbfjnobcckaa
open Go Go.RowKit

/-! ### keys -/
def cmpB (a b : ByteArray) : Int := Lib.compareBytes a.data.toList b.data.toList
theorem cb_zero : ∀ {a b : List UInt8}, Lib.compareBytes a b = 0 ↔ a = b
  | [], [] => by simp [Lib.compareBytes]
  | [], _ :: _ => by simp [Lib.compareBytes]
  | _ :: _, [] => by simp [Lib.compareBytes]
  | a :: ar, b :: br => by
    unfold Lib.compareBytes
    have ih := @cb_zero ar br
    simp only [UInt8.lt_iff_toNat_lt]
    by_cases h1 : a.toNat < b.toNat
    · rw [if_pos h1]
      constructor
      · intro h; omega
      · intro h
        injection h with h2 _
        subst h2
        omega
    · rw [if_neg h1]
      by_cases h2 : b.toNat < a.toNat
      · rw [if_pos h2]
        constructor
        · intro h; omega
        · intro h
          injection h with h3 _
          subst h3
          omega
      · rw [if_neg h2, ih]
        have : a = b := UInt8.toNat_inj.1 (by omega)
        simp [this]
theorem cb_neg_trans : ∀ {a b c : List UInt8}, Lib.compareBytes a b < 0 → Lib.compareBytes b c < 0 → Lib.compareBytes a c < 0
  | [], [], _, h, _ => by simp [Lib.compareBytes] at h
  | [], _ :: _, [], _, h => by simp [Lib.compareBytes] at h
  | [], _ :: _, _ :: _, _, _ => by simp [Lib.compareBytes]
  | _ :: _, [], _, h, _ => by simp [Lib.compareBytes] at h
  | _ :: _, _ :: _, [], _, h => by simp [Lib.compareBytes] at h
  | a :: ar, b :: br, c :: cr, h1, h2 => by
    have ih := @cb_neg_trans ar br cr
    unfold Lib.compareBytes at h1 h2 ⊢
    simp only [UInt8.lt_iff_toNat_lt] at h1 h2 ⊢
    by_cases c1 : a.toNat < b.toNat
    · by_cases c2 : c.toNat < b.toNat
      · rw [if_neg (by omega), if_pos c2] at h2; omega
      · rw [if_pos (by omega)]; omega
    · by_cases c3 : b.toNat < a.toNat
      · rw [if_neg c1, if_pos c3] at h1; omega
      · by_cases c4 : b.toNat < c.toNat
        · rw [if_pos (by omega)]; omega
        · by_cases c5 : c.toNat < b.toNat
          · rw [if_neg c4, if_pos c5] at h2; omega
          · rw [if_neg c1, if_neg c3] at h1
            rw [if_neg c4, if_neg c5] at h2
            rw [if_neg (by omega), if_neg (by omega)]
            exact ih h1 h2
theorem cb_flip : ∀ {a b : List UInt8}, Lib.compareBytes b a = - Lib.compareBytes a b
  | [], [] => rfl
  | [], _ :: _ => rfl
  | _ :: _, [] => rfl
  | a :: ar, b :: br => by
    have ih := @cb_flip ar br
    unfold Lib.compareBytes
    simp only [UInt8.lt_iff_toNat_lt]
    by_cases h1 : a.toNat < b.toNat
    · rw [if_neg (by omega : ¬ b.toNat < a.toNat), if_pos h1, if_pos h1]; rfl
    · by_cases h2 : b.toNat < a.toNat
      · rw [if_pos h2, if_neg h1, if_pos h2]
      · rw [if_neg h2, if_neg h1, if_neg h1, if_neg h2]; exact ih
theorem ba_eq {a b : ByteArray} (h : a.data.toList = b.data.toList) : a = b := by
  obtain ⟨⟨a⟩⟩ := a
  obtain ⟨⟨b⟩⟩ := b
  simp at h
  rw [h]
theorem cmpB_zero {a b : ByteArray} : cmpB a b = 0 ↔ a = b := by
  unfold cmpB
  rw [cb_zero]
  exact ⟨ba_eq, fun h => by rw [h]⟩
theorem cmpstr_any (a b : ByteArray) (w : World) : Calls Try.prog 41 #[.string a, .string b] w fun e w' => e = .returned (.int .i64 (cmpB a b)) ∧ w = w' := by
  have hx : Calls Try.prog 50 #[.string a, .string b] w fun e w' => e = .returned (.int .i64 (cmpB a b)) ∧ w = w' := by
    go_enter Try.func50, Try.ntmps50
    go_wp2
    rw [run_callFunc_extern Try.func56 (by kernel_rfl) (by kernel_rfl) (by kernel_rfl) (e := Extern.BytealgCompare.compare) (by kernel_rfl), Lib.run_compareString]
    simp only [Result.andThen]
    rw [Oper.upon_value]
    go_wp2
    go_ret
    exact ⟨rfl, rfl⟩
  have HX := Lib.hid hx
  clear hx
  go_enter Try.func41, Try.ntmps41
  go_wp2_with (go_at_call 50; (with_reducible refine HX.out.mono ?_); rintro e w1 ⟨rfl, rfl⟩)
  go_ret
  exact ⟨rfl, rfl⟩
theorem find1_any (e : Nd) (key : ByteArray) (w : World) : Calls Try.prog 40 #[e.val, .string key] w fun r w' => r = .returned (.int .i64 (cmpB e.key key)) ∧ Below w.heap.size w w' := by
  obtain ⟨xk, xb, xv, xw, xo, xc⟩ := e
  change Calls _ _ #[.agg #[.string xk, .slice xo xb.length xc, .int .u64 (xv : Int), .int .u64 (xw : Int)], .string key] w _
  go_enter Try.func40, Try.ntmps40
  go_wp2_with (go_at_call 41; (with_reducible refine (cmpstr_any _ _ _).mono ?_); rintro e w1 ⟨rfl, rfl⟩)
  go_ret
  exact ⟨rfl, (Below.refl _ w).alloc (Nat.le_refl _) _⟩
/-! ### a tree in plain words -/
structure Pl where
  key : ByteArray
  body : List UInt8
  ver : Nat
  own : Nat
def Nd.pl (e : Nd) : Pl := ⟨e.key, e.body, e.ver, e.own⟩
def Sorted (l : List Pl) : Prop := l.Pairwise (fun x y => cmpB x.key y.key < 0)
theorem Sorted.mono {l : List Pl} (h : Sorted l) (t : ByteArray) : ∀ (i j : Nat) (x y : Pl), i ≤ j → l[i]? = some x → l[j]? = some y → 0 ≤ cmpB x.key t → 0 ≤ cmpB y.key t := by
  intro i j x y hij hx hy h0
  rcases Nat.lt_or_ge i j with h1 | h1
  · obtain ⟨hi, rfl⟩ := List.getElem?_eq_some_iff.1 hx
    obtain ⟨hj, rfl⟩ := List.getElem?_eq_some_iff.1 hy
    have h2 := List.pairwise_iff_getElem.1 h i j hi hj h1
    by_cases h3 : cmpB l[j].key t < 0
    · have := cb_neg_trans h2 h3
      have h4 : cmpB l[i].key t < 0 := this
      omega
    · omega
  · obtain rfl : i = j := by omega
    rw [hx] at hy; cases hy; exact h0
/-! ### a tree in memory -/
def blk (o : Option Addr) : List Nat := (o.map (·.block)).toList
theorem mem_blk {o : Option Addr} {k : Nat} : k ∈ blk o ↔ ∃ a, o = some a ∧ a.block = k := by
  cases o <;> simp [blk, eq_comm]
/-- A node's bytes, apart from the list's own memory. -/
def BodyOk (w : World) (p : Nat) (lo : Option Addr) (F : List Nat) (e : Nd) : Prop := Bts w e.vo e.body ∧ e.body.length ≤ e.vc ∧ ∀ a, e.vo = some a → a.block ∈ F ∧ a.block ≠ p ∧ a.block ∉ blk lo
structure TreeIs (w : World) (p : Nat) (lo : Option Addr) (n cap : Nat) (l : List Nd) (ps : List Pl) (F : List Nat) : Prop where
  map : l.map Nd.pl = ps
  heap : w.heap[p]? = some (.cells #[.slice lo n cap] 64 (0, 0))
  own : Own w 4 lo n cap (l.flatMap Nd.cells)
  apart : p ∉ blk lo
  body : ∀ e ∈ l, BodyOk w p lo F e
  pF : p ∈ F
  bF : ∀ k ∈ blk lo, k ∈ F
  lt : ∀ k ∈ F, k < w.heap.size
def TreeAt (w : World) (p : Nat) (ps : List Pl) (F : List Nat) : Prop := ∃ lo n cap l, TreeIs w p lo n cap l ps F
theorem TreeIs.keep {w w' : World} {p n cap : Nat} {lo : Option Addr} {l : List Nd} {ps : List Pl} {F : List Nat} (h : TreeIs w p lo n cap l ps F) {S : Nat → Prop} (hc : Chg S w w') (hS : ∀ k ∈ F, ¬ S k) : TreeIs w' p lo n cap l ps F :=
  ⟨h.map, hc.heap h.heap (hS p h.pF), h.own.keep hc (fun a ha => hS _ (h.bF _ (mem_blk.2 ⟨a, ha, rfl⟩))), h.apart, fun e he => ⟨hc.row (h.body e he).1 (fun a ha => hS _ ((h.body e he).2.2 a ha).1), (h.body e he).2⟩, h.pF, h.bF, fun k hk => Nat.lt_of_lt_of_le (h.lt k hk) hc.size⟩
theorem TreeAt.keep {w w' : World} {p : Nat} {ps : List Pl} {F : List Nat} (h : TreeAt w p ps F) {S : Nat → Prop} (hc : Chg S w w') (hS : ∀ k ∈ F, ¬ S k) : TreeAt w' p ps F := by
  obtain ⟨lo, n, cap, l, h⟩ := h
  exact ⟨lo, n, cap, l, h.keep hc hS⟩
theorem TreeAt.lt {w : World} {p : Nat} {ps : List Pl} {F : List Nat} (h : TreeAt w p ps F) : ∀ k ∈ F, k < w.heap.size := by
  obtain ⟨lo, n, cap, l, h⟩ := h
  exact h.lt
def Wrote (w w' : World) (p : Nat) (ps : List Pl) (F : List Nat) : Prop := ∃ F', TreeAt w' p ps F' ∧ Chg (· ∈ F) w w' ∧ ∀ k ∈ F', k ∈ F ∨ w.heap.size ≤ k
theorem Wrote.same {w w' : World} {p : Nat} {ps : List Pl} {F : List Nat} (h : TreeAt w p ps F) (hb : Below w.heap.size w w') : Wrote w w' p ps F :=
  ⟨F, h.keep (Chg.of_below hb (fun _ => False)) (fun _ _ h => h), Chg.of_below hb _, fun _ h => .inl h⟩
theorem TreeIs.len {w : World} {p n cap : Nat} {lo : Option Addr} {l : List Nd} {ps : List Pl} {F : List Nat} (h : TreeIs w p lo n cap l ps F) : l.length = n ∧ ps.length = n := by
  have h1 := fl_own_len el_e h.own
  exact ⟨h1, by rw [← h.map, List.length_map]; exact h1⟩
theorem TreeIs.get {w : World} {p n cap i : Nat} {lo : Option Addr} {l : List Nd} {ps : List Pl} {F : List Nat} (h : TreeIs w p lo n cap l ps F) {e : Nd} (he : l[i]? = some e) : ps[i]? = some e.pl := by
  rw [← h.map, List.getElem?_map, he]; rfl
theorem TreeIs.got {w : World} {p n cap i : Nat} {lo : Option Addr} {l : List Nd} {ps : List Pl} {F : List Nat} (h : TreeIs w p lo n cap l ps F) {x : Pl} (hx : ps[i]? = some x) : ∃ e, l[i]? = some e ∧ e.pl = x := by
  rw [← h.map, List.getElem?_map] at hx
  cases he : l[i]? with
  | none => rw [he] at hx; cases hx
  | some e => rw [he] at hx; exact ⟨e, rfl, by simpa using hx⟩
def LoP (key : ByteArray) (ps : List Pl) (i : Nat) : Prop := ∀ (k : Nat) (x : Pl), k < i → ps[k]? = some x → cmpB x.key key < 0
def HiP (key : ByteArray) (ps : List Pl) (i : Nat) : Prop := ∀ (k : Nat) (x : Pl), i ≤ k → ps[k]? = some x → 0 ≤ cmpB x.key key
theorem find_any (p : Nat) (lo : Option Addr) (n cap : Nat) (l : List Nd) (ps : List Pl) (F : List Nat) (key : ByteArray) (w : World) (h : TreeIs w p lo n cap l ps F) (hs : Sorted ps) (hl : ps.length ≤ 1000000) :
    Calls Try.prog 28 #[.pointer (some ⟨p, 0, none⟩), .string key] w fun e w' => ∃ (i : Nat) (fd : Bool), e = .returned (.tuple #[.int .i64 (i : Int), .bool fd]) ∧ Below w.heap.size w w' ∧ i ≤ n ∧ LoP key ps i ∧ HiP key ps i ∧ (fd = true ↔ ∃ x, ps[i]? = some x ∧ cmpB x.key key = 0) := by
  have hn := h.len
  obtain ⟨z0, z2⟩ := cells1 h.heap
  have HBS := Lib.hid (bs_any (f := 40) (ck := fun e => cmpB e.key key) key lo n cap l w h.own.row hn.1 (by omega) ⟨fun _ _ => rfl, fun e w _ => find1_any e key w⟩ (fun i j x y hij hx hy h0 => hs.mono key i j x.pl y.pl hij (h.get hx) (h.get hy) h0))
  have HI := Lib.hid h
  clear h hn
  go_enter Try.func28, Try.ntmps28
  go_wp2_with (go_at_call 39; (with_reducible refine HBS.out.mono ?_); rintro r w2 ⟨i, fd, rfl, hb2, hin, hlo, hhi, hfd⟩; have H2 := Lib.hid (And.intro hb2 (And.intro hin (And.intro hlo (And.intro hhi hfd)))); clear hb2 hin hlo hhi hfd)
  go_ret2
  refine ⟨i, fd, rfl, H2.out.1, H2.out.2.1, fun k x hk hx => ?_, fun k x hk hx => ?_, ?_⟩
  · obtain ⟨e, he, rfl⟩ := HI.out.got hx
    exact H2.out.2.2.1 k e hk he
  · obtain ⟨e, he, rfl⟩ := HI.out.got hx
    exact H2.out.2.2.2.1 k e hk he
  · rw [H2.out.2.2.2.2]
    constructor
    · rintro ⟨e, he, h0⟩; exact ⟨e.pl, HI.out.get he, h0⟩
    · rintro ⟨x, hx, h0⟩
      obtain ⟨e, he, rfl⟩ := HI.out.got hx
      exact ⟨e, he, h0⟩
end Go.Proofs.Ytebhbfjnobcckaa
