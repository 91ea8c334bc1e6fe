/-
  JOINED BY fam.py out of: TreeA, TreeB, TreeC, TreeD, TreeE.
-/
import Derived.Test.YtackmgmaippajaaGreatFN
import Derived.Lib.Bytealg
import Derived.Deep.RegionHeld3
import Derived.Laws.ResultCell
-- part TreeA
namespace Go.Proofs.YtackmgmaippajaaGreat.Tr
set_option maxRecDepth 100000
open Go Go.RowKit

/-! ### keys -/
def cmpB (a b : ByteArray) : Int := Lib.compareBytes a.data.toList b.data.toList
theorem cb_zero : ∀ {a b : List UInt8}, Lib.compareBytes a b = 0 ↔ a = b
  | [], [] => by simp [Lib.compareBytes]
  | [], _ :: _ => by simp [Lib.compareBytes]
  | _ :: _, [] => by simp [Lib.compareBytes]
  | a :: ar, b :: br => by
    unfold Lib.compareBytes
    have ih := @cb_zero ar br
    simp only [UInt8.lt_iff_toNat_lt]
    by_cases h1 : a.toNat < b.toNat
    · rw [if_pos h1]
      constructor
      · intro h; omega
      · intro h
        injection h with h2 _
        subst h2
        omega
    · rw [if_neg h1]
      by_cases h2 : b.toNat < a.toNat
      · rw [if_pos h2]
        constructor
        · intro h; omega
        · intro h
          injection h with h3 _
          subst h3
          omega
      · rw [if_neg h2, ih]
        have : a = b := UInt8.toNat_inj.1 (by omega)
        simp [this]
theorem cb_neg_trans : ∀ {a b c : List UInt8}, Lib.compareBytes a b < 0 → Lib.compareBytes b c < 0 → Lib.compareBytes a c < 0
  | [], [], _, h, _ => by simp [Lib.compareBytes] at h
  | [], _ :: _, [], _, h => by simp [Lib.compareBytes] at h
  | [], _ :: _, _ :: _, _, _ => by simp [Lib.compareBytes]
  | _ :: _, [], _, h, _ => by simp [Lib.compareBytes] at h
  | _ :: _, _ :: _, [], _, h => by simp [Lib.compareBytes] at h
  | a :: ar, b :: br, c :: cr, h1, h2 => by
    have ih := @cb_neg_trans ar br cr
    unfold Lib.compareBytes at h1 h2 ⊢
    simp only [UInt8.lt_iff_toNat_lt] at h1 h2 ⊢
    by_cases c1 : a.toNat < b.toNat
    · by_cases c2 : c.toNat < b.toNat
      · rw [if_neg (by omega), if_pos c2] at h2; omega
      · rw [if_pos (by omega)]; omega
    · by_cases c3 : b.toNat < a.toNat
      · rw [if_neg c1, if_pos c3] at h1; omega
      · by_cases c4 : b.toNat < c.toNat
        · rw [if_pos (by omega)]; omega
        · by_cases c5 : c.toNat < b.toNat
          · rw [if_neg c4, if_pos c5] at h2; omega
          · rw [if_neg c1, if_neg c3] at h1
            rw [if_neg c4, if_neg c5] at h2
            rw [if_neg (by omega), if_neg (by omega)]
            exact ih h1 h2
theorem cb_flip : ∀ {a b : List UInt8}, Lib.compareBytes b a = - Lib.compareBytes a b
  | [], [] => rfl
  | [], _ :: _ => rfl
  | _ :: _, [] => rfl
  | a :: ar, b :: br => by
    have ih := @cb_flip ar br
    unfold Lib.compareBytes
    simp only [UInt8.lt_iff_toNat_lt]
    by_cases h1 : a.toNat < b.toNat
    · rw [if_neg (by omega : ¬ b.toNat < a.toNat), if_pos h1, if_pos h1]; rfl
    · by_cases h2 : b.toNat < a.toNat
      · rw [if_pos h2, if_neg h1, if_pos h2]
      · rw [if_neg h2, if_neg h1, if_neg h1, if_neg h2]; exact ih
theorem ba_eq {a b : ByteArray} (h : a.data.toList = b.data.toList) : a = b := by
  obtain ⟨⟨a⟩⟩ := a
  obtain ⟨⟨b⟩⟩ := b
  simp at h
  rw [h]
theorem cmpB_zero {a b : ByteArray} : cmpB a b = 0 ↔ a = b := by
  unfold cmpB
  rw [cb_zero]
  exact ⟨ba_eq, fun h => by rw [h]⟩
theorem cmpstr_any (a b : ByteArray) (w : World) : Calls Tryz.prog 123 #[.string a, .string b] w fun e w' => e = .returned (.int .i64 (cmpB a b)) ∧ w = w' := by
  have hx : Calls Tryz.prog 134 #[.string a, .string b] w fun e w' => e = .returned (.int .i64 (cmpB a b)) ∧ w = w' := by
    go_enter Tryz.func134, Tryz.ntmps134
    go_wp2
    rw [run_callFunc_extern Tryz.func138 (by kernel_rfl) (by kernel_rfl) (by kernel_rfl) (e := Extern.BytealgCompare.compare) (by kernel_rfl), Lib.run_compareString]
    simp only [Result.andThen]
    rw [Oper.upon_value]
    go_wp2
    go_ret
    exact ⟨rfl, rfl⟩
  have HX := Lib.hid hx
  clear hx
  go_enter Tryz.func123, Tryz.ntmps123
  go_wp2_with (go_at_call 134; (with_reducible refine HX.out.mono ?_); rintro e w1 ⟨rfl, rfl⟩)
  go_ret
  exact ⟨rfl, rfl⟩
theorem find1_any (e : Nd) (key : ByteArray) (w : World) : Calls Tryz.prog 122 #[e.val, .string key] w fun r w' => r = .returned (.int .i64 (cmpB e.key key)) ∧ Below w.heap.size w w' := by
  obtain ⟨xk, xb, xv, xw, xo, xc⟩ := e
  change Calls _ _ #[.agg #[.string xk, .slice xo xb.length xc, .int .u64 (xv : Int), .int .u64 (xw : Int)], .string key] w _
  go_enter Tryz.func122, Tryz.ntmps122
  go_wp2_with (go_at_call 123; (with_reducible refine (cmpstr_any _ _ _).mono ?_); rintro e w1 ⟨rfl, rfl⟩)
  go_ret
  exact ⟨rfl, (Below.refl _ w).alloc (Nat.le_refl _) _⟩
/-! ### a tree in plain words -/
structure Pl where
  key : ByteArray
  body : List UInt8
  ver : Nat
  own : Nat
def _root_.Go.Proofs.YtackmgmaippajaaGreat.Nd.pl (e : Nd) : Pl := ⟨e.key, e.body, e.ver, e.own⟩
def Sorted (l : List Pl) : Prop := l.Pairwise (fun x y => cmpB x.key y.key < 0)
theorem Sorted.mono {l : List Pl} (h : Sorted l) (t : ByteArray) : ∀ (i j : Nat) (x y : Pl), i ≤ j → l[i]? = some x → l[j]? = some y → 0 ≤ cmpB x.key t → 0 ≤ cmpB y.key t := by
  intro i j x y hij hx hy h0
  rcases Nat.lt_or_ge i j with h1 | h1
  · obtain ⟨hi, rfl⟩ := List.getElem?_eq_some_iff.1 hx
    obtain ⟨hj, rfl⟩ := List.getElem?_eq_some_iff.1 hy
    have h2 := List.pairwise_iff_getElem.1 h i j hi hj h1
    by_cases h3 : cmpB l[j].key t < 0
    · have := cb_neg_trans h2 h3
      have h4 : cmpB l[i].key t < 0 := this
      omega
    · omega
  · obtain rfl : i = j := by omega
    rw [hx] at hy; cases hy; exact h0
/-! ### a tree in memory -/
def blk (o : Option Addr) : List Nat := (o.map (·.block)).toList
theorem mem_blk {o : Option Addr} {k : Nat} : k ∈ blk o ↔ ∃ a, o = some a ∧ a.block = k := by
  cases o <;> simp [blk, eq_comm]
/-- A node's bytes, apart from the list's own memory. -/
def BodyOk (w : World) (p : Nat) (lo : Option Addr) (F : List Nat) (e : Nd) : Prop := Bts w e.vo e.body ∧ e.body.length ≤ e.vc ∧ ∀ a, e.vo = some a → a.block ∈ F ∧ a.block ≠ p ∧ a.block ∉ blk lo
structure TreeIs (w : World) (p : Nat) (lo : Option Addr) (n cap : Nat) (l : List Nd) (ps : List Pl) (F : List Nat) : Prop where
  map : l.map Nd.pl = ps
  heap : w.heap[p]? = some (.cells #[.slice lo n cap] 144 (0, 0))
  own : Own w 4 lo n cap (l.flatMap Nd.cells)
  apart : p ∉ blk lo
  body : ∀ e ∈ l, BodyOk w p lo F e
  pF : p ∈ F
  bF : ∀ k ∈ blk lo, k ∈ F
  lt : ∀ k ∈ F, k < w.heap.size
def TreeAt (w : World) (p : Nat) (ps : List Pl) (F : List Nat) : Prop := ∃ lo n cap l, TreeIs w p lo n cap l ps F
theorem TreeIs.keep {w w' : World} {p n cap : Nat} {lo : Option Addr} {l : List Nd} {ps : List Pl} {F : List Nat} (h : TreeIs w p lo n cap l ps F) {S : Nat → Prop} (hc : Chg S w w') (hS : ∀ k ∈ F, ¬ S k) : TreeIs w' p lo n cap l ps F :=
  ⟨h.map, hc.heap h.heap (hS p h.pF), h.own.keep hc (fun a ha => hS _ (h.bF _ (mem_blk.2 ⟨a, ha, rfl⟩))), h.apart, fun e he => ⟨hc.row (h.body e he).1 (fun a ha => hS _ ((h.body e he).2.2 a ha).1), (h.body e he).2⟩, h.pF, h.bF, fun k hk => Nat.lt_of_lt_of_le (h.lt k hk) hc.size⟩
theorem TreeAt.keep {w w' : World} {p : Nat} {ps : List Pl} {F : List Nat} (h : TreeAt w p ps F) {S : Nat → Prop} (hc : Chg S w w') (hS : ∀ k ∈ F, ¬ S k) : TreeAt w' p ps F := by
  obtain ⟨lo, n, cap, l, h⟩ := h
  exact ⟨lo, n, cap, l, h.keep hc hS⟩
theorem TreeAt.lt {w : World} {p : Nat} {ps : List Pl} {F : List Nat} (h : TreeAt w p ps F) : ∀ k ∈ F, k < w.heap.size := by
  obtain ⟨lo, n, cap, l, h⟩ := h
  exact h.lt
def Wrote (w w' : World) (p : Nat) (ps : List Pl) (F : List Nat) : Prop := ∃ F', TreeAt w' p ps F' ∧ Chg (· ∈ F) w w' ∧ ∀ k ∈ F', k ∈ F ∨ w.heap.size ≤ k
theorem Wrote.same {w w' : World} {p : Nat} {ps : List Pl} {F : List Nat} (h : TreeAt w p ps F) (hb : Below w.heap.size w w') : Wrote w w' p ps F :=
  ⟨F, h.keep (Chg.of_below hb (fun _ => False)) (fun _ _ h => h), Chg.of_below hb _, fun _ h => .inl h⟩
theorem TreeIs.len {w : World} {p n cap : Nat} {lo : Option Addr} {l : List Nd} {ps : List Pl} {F : List Nat} (h : TreeIs w p lo n cap l ps F) : l.length = n ∧ ps.length = n := by
  have h1 := fl_own_len el_e h.own
  exact ⟨h1, by rw [← h.map, List.length_map]; exact h1⟩
theorem TreeIs.get {w : World} {p n cap i : Nat} {lo : Option Addr} {l : List Nd} {ps : List Pl} {F : List Nat} (h : TreeIs w p lo n cap l ps F) {e : Nd} (he : l[i]? = some e) : ps[i]? = some e.pl := by
  rw [← h.map, List.getElem?_map, he]; rfl
theorem TreeIs.got {w : World} {p n cap i : Nat} {lo : Option Addr} {l : List Nd} {ps : List Pl} {F : List Nat} (h : TreeIs w p lo n cap l ps F) {x : Pl} (hx : ps[i]? = some x) : ∃ e, l[i]? = some e ∧ e.pl = x := by
  rw [← h.map, List.getElem?_map] at hx
  cases he : l[i]? with
  | none => rw [he] at hx; cases hx
  | some e => rw [he] at hx; exact ⟨e, rfl, by simpa using hx⟩
def LoP (key : ByteArray) (ps : List Pl) (i : Nat) : Prop := ∀ (k : Nat) (x : Pl), k < i → ps[k]? = some x → cmpB x.key key < 0
def HiP (key : ByteArray) (ps : List Pl) (i : Nat) : Prop := ∀ (k : Nat) (x : Pl), i ≤ k → ps[k]? = some x → 0 ≤ cmpB x.key key
theorem find_any (p : Nat) (lo : Option Addr) (n cap : Nat) (l : List Nd) (ps : List Pl) (F : List Nat) (key : ByteArray) (w : World) (h : TreeIs w p lo n cap l ps F) (hs : Sorted ps) (hl : ps.length ≤ 1000000) :
    Calls Tryz.prog 94 #[.pointer (some ⟨p, 0, none⟩), .string key] w fun e w' => ∃ (i : Nat) (fd : Bool), e = .returned (.tuple #[.int .i64 (i : Int), .bool fd]) ∧ Below w.heap.size w w' ∧ i ≤ n ∧ LoP key ps i ∧ HiP key ps i ∧ (fd = true ↔ ∃ x, ps[i]? = some x ∧ cmpB x.key key = 0) := by
  have hn := h.len
  obtain ⟨z0, z2⟩ := cells1 h.heap
  have HBS := Lib.hid (bs_any (f := 122) (ck := fun e => cmpB e.key key) key lo n cap l w h.own.row hn.1 (by omega) ⟨fun _ _ => rfl, fun e w _ => find1_any e key w⟩ (fun i j x y hij hx hy h0 => hs.mono key i j x.pl y.pl hij (h.get hx) (h.get hy) h0))
  have HI := Lib.hid h
  clear h hn
  go_enter Tryz.func94, Tryz.ntmps94
  go_wp2_with (go_at_call 121; (with_reducible refine HBS.out.mono ?_); rintro r w2 ⟨i, fd, rfl, hb2, hin, hlo, hhi, hfd⟩; have H2 := Lib.hid (And.intro hb2 (And.intro hin (And.intro hlo (And.intro hhi hfd)))); clear hb2 hin hlo hhi hfd)
  go_ret2
  refine ⟨i, fd, rfl, H2.out.1, H2.out.2.1, fun k x hk hx => ?_, fun k x hk hx => ?_, ?_⟩
  · obtain ⟨e, he, rfl⟩ := HI.out.got hx
    exact H2.out.2.2.1 k e hk he
  · obtain ⟨e, he, rfl⟩ := HI.out.got hx
    exact H2.out.2.2.2.1 k e hk he
  · rw [H2.out.2.2.2.2]
    constructor
    · rintro ⟨e, he, h0⟩; exact ⟨e.pl, HI.out.get he, h0⟩
    · rintro ⟨x, hx, h0⟩
      obtain ⟨e, he, rfl⟩ := HI.out.got hx
      exact ⟨e, he, h0⟩
end Go.Proofs.YtackmgmaippajaaGreat.Tr
-- part TreeB
namespace Go.Proofs.YtackmgmaippajaaGreat.Tr
set_option maxRecDepth 100000
open Go Go.RowKit

set_option maxHeartbeats 1000000 in
theorem copied_any (e : Nd) (w : World) (hb : Bts w e.vo e.body) (hl : e.body.length ≤ 1000000) :
    Calls Tryz.prog 76 #[e.val] w fun r w' => ∃ bo bc, r = .returned (Nd.mk e.key e.body e.ver e.own bo bc).val ∧ Below w.heap.size w w' ∧ Own w' 1 bo e.body.length bc (e.body.map cb) ∧ ∀ a, bo = some a → w.heap.size ≤ a.block := by
  obtain ⟨xk, xb, xv, xw, xo, xc⟩ := e
  dsimp only at *
  change Calls _ _ #[.agg #[.string xk, .slice xo xb.length xc, .int .u64 (xv : Int), .int .u64 (xw : Int)]] w _
  have h1 := heap_new (o := .cells #[.string ⟨#[]⟩, .slice none 0 0, .int .u64 0, .int .u64 0] 78) (heap_top w (.cells #[.string xk, .slice xo xb.length xc, .int .u64 (xv : Int), .int .u64 (xw : Int)] 78))
  have h2 := heap_top (w.alloc (.cells #[.string xk, .slice xo xb.length xc, .int .u64 (xv : Int), .int .u64 (xw : Int)] 78)) (.cells #[.string ⟨#[]⟩, .slice none 0 0, .int .u64 0, .int .u64 0] 78)
  rw [size_alloc] at h2
  have HB := Lib.hid (((Below.refl w.heap.size w).alloc (Nat.le_refl _) (.cells #[.string xk, .slice xo xb.length xc, .int .u64 (xv : Int), .int .u64 (xw : Int)] 78)).alloc (by rw [size_alloc]; omega) (.cells #[.string ⟨#[]⟩, .slice none 0 0, .int .u64 0, .int .u64 0] 78))
  go_enter Tryz.func76, Tryz.ntmps76
  go_wp2_with fail
  generalize (w.alloc (.cells #[.string xk, .slice xo xb.length xc, .int .u64 (xv : Int), .int .u64 (xw : Int)] 78)).alloc (.cells #[.string ⟨#[]⟩, .slice none 0 0, .int .u64 0, .int .u64 0] 78) = W at *
  (with_reducible refine (clone_any xo xb.length xc xb W rfl (by omega) (hb.below HB.out)).mono ?_)
  rintro r w2 ⟨bo, bc, rfl, hb2, ho, hnew⟩
  have hC := Chg.of_below hb2 (fun _ => False)
  obtain ⟨a0, a1, a2, a3, a4⟩ := cells4 (hC.heap h1 (fun h => h))
  obtain ⟨b0, b1, b2, b3, b4⟩ := cells4 (hC.heap h2 (fun h => h))
  have hs2 : w.heap.size + 1 < w2.heap.size := Nat.lt_of_lt_of_le (heap_lt h2) hC.size
  have g0 := heap_far (a := ⟨w.heap.size, 1, none⟩) (hC.heap h2 (fun h => h)) (Nat.ne_of_gt (Nat.lt_succ_self w.heap.size)) (.slice bo xb.length bc)
  have g4 := heap_set (heap_set (heap_set (heap_set g0 0 (.string xk)) 1 (.slice bo xb.length bc)) 2 (.int .u64 (xv : Int))) 3 (.int .u64 (xw : Int))
  simp only [List.setIfInBounds_toArray, List.set_cons_zero, List.set_cons_succ] at g4
  have hch5 : Chg (fun k => k = w.heap.size ∨ k = w.heap.size + 1) w2 (((((w2.setCell ⟨w.heap.size, 1, none⟩ (.slice bo xb.length bc)).setCell ⟨w.heap.size + 1, 0, none⟩ (.string xk)).setCell ⟨w.heap.size + 1, 1, none⟩ (.slice bo xb.length bc)).setCell ⟨w.heap.size + 1, 2, none⟩ (.int .u64 (xv : Int))).setCell ⟨w.heap.size + 1, 3, none⟩ (.int .u64 (xw : Int))) :=
    (((((Chg.refl _ w2).set (p := w.heap.size) (.inl rfl) 1 _).set (p := w.heap.size + 1) (.inr rfl) 0 _).set (p := w.heap.size + 1) (.inr rfl) 1 _).set (p := w.heap.size + 1) (.inr rfl) 2 _).set (p := w.heap.size + 1) (.inr rfl) 3 _
  have hbw := HB.out.trans (hb2.mono HB.out.size)
  have HF := Lib.hid (And.intro g4 (And.intro (hbw.trans (hch5.below hbw.size (fun k hk => by omega))) (And.intro (ho.keep hch5 (fun a ha h => by have := hnew a ha; have := heap_lt h2; omega)) (fun a ha => Nat.le_trans HB.out.size (hnew a ha)))))
  clear hb2 ho hnew hC h1 h2 g0 g4 hch5 hbw
  go_wp2
  generalize (((((w2.setCell ⟨w.heap.size, 1, none⟩ (.slice bo xb.length bc)).setCell ⟨w.heap.size + 1, 0, none⟩ (.string xk)).setCell ⟨w.heap.size + 1, 1, none⟩ (.slice bo xb.length bc)).setCell ⟨w.heap.size + 1, 2, none⟩ (.int .u64 (xv : Int))).setCell ⟨w.heap.size + 1, 3, none⟩ (.int .u64 (xw : Int))) = W5 at *
  obtain ⟨c0, c1, c2, c3, _⟩ := cells4 HF.out.1
  refine bodyPost_ret (v := (Nd.mk xk xb xv xw bo bc).val) (w := W5) ?_ rfl ?_
  · simp [results, Tryz.results76, go_sem, c0, c1, c2, c3]
    rfl
  · exact ⟨bo, bc, rfl, HF.out.2⟩
/-! ### plain words -/
def lookP : List Pl → ByteArray → Option Pl
  | [], _ => none
  | x :: l, key => if cmpB x.key key = 0 then some x else lookP l key
theorem look_some : ∀ {ps : List Pl} {key : ByteArray} {i : Nat} {x : Pl}, LoP key ps i → ps[i]? = some x → cmpB x.key key = 0 → lookP ps key = some x
  | [], _, _, _, _, hx, _ => by simp at hx
  | y :: ps, key, 0, x, _, hx, h0 => by simp at hx; subst hx; rw [lookP, if_pos h0]
  | y :: ps, key, i + 1, x, hlo, hx, h0 => by
    have h1 := hlo 0 y (by omega) rfl
    rw [lookP, if_neg (by omega)]
    exact look_some (i := i) (fun k z hk hz => hlo (k + 1) z (by omega) (by simpa using hz)) (by simpa using hx) h0
theorem look_none {ps : List Pl} {key : ByteArray} (h : ∀ x ∈ ps, cmpB x.key key ≠ 0) : lookP ps key = none := by
  induction ps with
  | nil => rfl
  | cons y ps ih => rw [lookP, if_neg (h y (by simp)), ih (fun x hx => h x (by simp [hx]))]
theorem look_no {ps : List Pl} {key : ByteArray} {i : Nat} (hs : Sorted ps) (hlo : LoP key ps i) (hhi : HiP key ps i) (hno : ¬ ∃ x, ps[i]? = some x ∧ cmpB x.key key = 0) : lookP ps key = none := by
  refine look_none (fun x hx h0 => ?_)
  obtain ⟨j, hj, rfl⟩ := List.getElem_of_mem hx
  rcases Nat.lt_trichotomy j i with h | h | h
  · have := hlo j _ h (List.getElem?_eq_getElem hj); omega
  · subst h
    exact hno ⟨_, List.getElem?_eq_getElem hj, h0⟩
  · have hi : i < ps.length := by omega
    have h1 := hhi i _ (Nat.le_refl _) (List.getElem?_eq_getElem hi)
    have h2 := List.pairwise_iff_getElem.1 hs i j hi hj h
    have h3 : ps[j].key = key := cmpB_zero.1 h0
    rw [h3] at h2
    omega
structure Fine (ps : List Pl) : Prop where
  sorted : Sorted ps
  len : ps.length ≤ 256
  body : ∀ x ∈ ps, x.body.length ≤ 3840
  ver : ∀ x ∈ ps, x.ver < 18446744073709551616
  own : ∀ x ∈ ps, x.own < 18446744073709551616
theorem Fine.nil : Fine [] := ⟨by simp [Sorted], by simp, by simp, by simp, by simp⟩
/-! ### Get -/
def zeroNd : Value := .agg #[.string ⟨#[]⟩, .slice none 0 0, .int .u64 0, .int .u64 0]
theorem nd_at {w : World} {lo : Option Addr} {l : List Nd} {i : Nat} {e : Nd} (h : Row w lo (l.flatMap Nd.cells)) (he : l[i]? = some e) :
    ∃ b off, lo = some ⟨b, off, none⟩ ∧ w.cell? ⟨b, off + i * 4, none⟩ = some (.string e.key) ∧ w.cell? ⟨b, off + i * 4 + 1, none⟩ = some (.slice e.vo e.body.length e.vc) ∧ w.cell? ⟨b, off + i * 4 + 2, none⟩ = some (.int .u64 (e.ver : Int)) ∧ w.cell? ⟨b, off + i * 4 + 3, none⟩ = some (.int .u64 (e.own : Int)) := by
  obtain ⟨b, off, rfl, h1⟩ := row_at' h he
  have q0 := h1 0 _ rfl
  have q1 := h1 1 _ rfl
  have q2 := h1 2 _ rfl
  have q3 := h1 3 _ rfl
  simp only [Nat.add_zero, ← Nat.add_assoc] at q0 q1 q2 q3
  exact ⟨b, off, rfl, q0, q1, q2, q3⟩
set_option maxHeartbeats 1000000 in
theorem get_none (p : Nat) (ps : List Pl) (F : List Nat) (key : ByteArray) (w : World) (h : TreeAt w p ps F) (hf : Fine ps) (hl : lookP ps key = none) :
    Calls Tryz.prog 53 #[.pointer (some ⟨p, 0, none⟩), .string key] w fun r w' => r = .returned (.tuple #[zeroNd, .bool false]) ∧ Below w.heap.size w w' := by
  have HA := Lib.hid ((Below.refl _ w).alloc (Nat.le_refl _) (.cells #[.string ⟨#[]⟩, .slice none 0 0, .int .u64 0, .int .u64 0] 78))
  have hT := heap_top w (.cells #[.string ⟨#[]⟩, .slice none 0 0, .int .u64 0, .int .u64 0] 78)
  obtain ⟨lo, n, cap, l, h⟩ := h
  have HFD := Lib.hid (find_any p lo n cap l ps F key _ (h.keep (Chg.of_below HA.out (fun _ => False)) (fun _ _ h => h)) hf.sorted (Nat.le_trans hf.len (by decide)))
  clear h
  go_enter Tryz.func53, Tryz.ntmps53
  go_wp2_with fail
  (with_reducible refine HFD.out.mono ?_)
  rintro r w2 ⟨i, fd, rfl, hb2, hin, hlo, hhi, hfd⟩
  obtain rfl : fd = false := by
    cases fd with
    | false => rfl
    | true =>
      obtain ⟨x, hx, h0⟩ := hfd.1 rfl
      rw [look_some hlo hx h0] at hl; cases hl
  have hC := Chg.of_below hb2 (fun _ => False)
  have hbw := HA.out.trans (hb2.mono HA.out.size)
  have g0 := hC.heap hT (fun h => h)
  have g4 := heap_set (heap_set (heap_set (heap_set g0 0 (.string ⟨#[]⟩)) 1 (.slice none 0 0)) 2 (.int .u64 0)) 3 (.int .u64 0)
  simp only [List.setIfInBounds_toArray, List.set_cons_zero, List.set_cons_succ] at g4
  obtain ⟨b0, b1, b2, b3, b4⟩ := cells4 g0
  have hch5 : Chg (fun k => k = w.heap.size) w2 ((((w2.setCell ⟨w.heap.size, 0, none⟩ (.string ⟨#[]⟩)).setCell ⟨w.heap.size, 1, none⟩ (.slice none 0 0)).setCell ⟨w.heap.size, 2, none⟩ (.int .u64 0)).setCell ⟨w.heap.size, 3, none⟩ (.int .u64 0)) :=
    ((((Chg.refl (fun k => k = w.heap.size) w2).set (p := w.heap.size) rfl 0 _).set (p := w.heap.size) rfl 1 _).set (p := w.heap.size) rfl 2 _).set (p := w.heap.size) rfl 3 _
  have HF := Lib.hid (And.intro g4 (hbw.trans (hch5.below hbw.size (fun k hk => Nat.le_of_eq hk.symm))))
  clear hb2 hin hlo hhi hfd hC hbw g0 g4 hch5 hT
  go_wp2
  generalize ((((w2.setCell ⟨w.heap.size, 0, none⟩ (.string ⟨#[]⟩)).setCell ⟨w.heap.size, 1, none⟩ (.slice none 0 0)).setCell ⟨w.heap.size, 2, none⟩ (.int .u64 0)).setCell ⟨w.heap.size, 3, none⟩ (.int .u64 0)) = W5 at *
  obtain ⟨c0, c1, c2, c3, _⟩ := cells4 HF.out.1
  refine bodyPost_ret (v := .tuple #[zeroNd, .bool false]) (w := W5) ?_ rfl ?_
  · simp [results, Tryz.results53, go_sem, c0, c1, c2, c3]
    rfl
  · exact ⟨rfl, HF.out.2⟩
set_option maxHeartbeats 1000000 in
theorem get_some (p : Nat) (ps : List Pl) (F : List Nat) (key : ByteArray) (x : Pl) (w : World) (h : TreeAt w p ps F) (hf : Fine ps) (hl : lookP ps key = some x) :
    Calls Tryz.prog 53 #[.pointer (some ⟨p, 0, none⟩), .string key] w fun r w' => ∃ bo bc, r = .returned (.tuple #[(Nd.mk x.key x.body x.ver x.own bo bc).val, .bool true]) ∧ Below w.heap.size w w' ∧ Own w' 1 bo x.body.length bc (x.body.map cb) ∧ ∀ a, bo = some a → w.heap.size ≤ a.block := by
  have HA := Lib.hid ((Below.refl _ w).alloc (Nat.le_refl _) (.cells #[.string ⟨#[]⟩, .slice none 0 0, .int .u64 0, .int .u64 0] 78))
  have hT := heap_top w (.cells #[.string ⟨#[]⟩, .slice none 0 0, .int .u64 0, .int .u64 0] 78)
  obtain ⟨lo, n, cap, l, h⟩ := h
  have HFD := Lib.hid (find_any p lo n cap l ps F key _ (h.keep (Chg.of_below HA.out (fun _ => False)) (fun _ _ h => h)) hf.sorted (Nat.le_trans hf.len (by decide)))
  have HI := Lib.hid h
  clear h
  go_enter Tryz.func53, Tryz.ntmps53
  go_wp2_with fail
  (with_reducible refine HFD.out.mono ?_)
  rintro r w2 ⟨i, fd, rfl, hb2, hin, hlo, hhi, hfd⟩
  have hbw := HA.out.trans (hb2.mono HA.out.size)
  have hC := Chg.of_below hbw (fun _ => False)
  obtain rfl : fd = true := by
    cases fd with
    | true => rfl
    | false =>
      rw [look_no hf.sorted hlo hhi (fun h => by have := hfd.2 h; cases this)] at hl; cases hl
  obtain ⟨x', hx, h0⟩ := hfd.1 rfl
  obtain rfl : x' = x := by rw [look_some hlo hx h0] at hl; exact Option.some.inj hl
  obtain ⟨e, he, rfl⟩ := HI.out.got hx
  have HI2 := Lib.hid (HI.out.keep hC (fun _ _ h => h))
  have hii : (i : Int) < (n : Int) := by have := (List.getElem?_eq_some_iff.1 he).1; have := HI.out.len.1; omega
  have hi0 : (0 : Int) ≤ (i : Int) := by omega
  obtain ⟨b, off, hlo', q0, q1, q2, q3⟩ := nd_at HI2.out.own.row he
  subst hlo'
  obtain ⟨z0, z2⟩ := cells1 HI2.out.heap
  have HCO := Lib.hid (show Calls Tryz.prog 76 #[.agg #[.string e.key, .slice e.vo e.body.length e.vc, .int .u64 (e.ver : Int), .int .u64 (e.own : Int)]] w2 _ from copied_any e w2 (HI2.out.body e (List.mem_of_getElem? he)).1 (Nat.le_trans (hf.body e.pl (List.mem_of_getElem? hx)) (by decide)))
  have HT2 := Lib.hid (And.intro ((Chg.of_below hb2 (fun _ => False)).heap hT (fun h => h)) hbw)
  obtain ⟨xk, xb, xv, xw, xo, xc⟩ := e
  dsimp only [Nd.pl] at *
  clear hb2 hin hlo hhi hfd hC hbw hT hx h0 hl he
  go_wp2_with fail
  (with_reducible refine HCO.out.mono ?_)
  rintro r w3 ⟨bo, bc, rfl, hb3, ho, hnew⟩
  have g0 := (Chg.of_below hb3 (fun _ => False)).heap HT2.out.1 (fun h => h)
  obtain ⟨b0, b1, b2, b3, b4⟩ := cells4 g0
  have g4 := heap_set (heap_set (heap_set (heap_set g0 0 (.string xk)) 1 (.slice bo xb.length bc)) 2 (.int .u64 (xv : Int))) 3 (.int .u64 (xw : Int))
  simp only [List.setIfInBounds_toArray, List.set_cons_zero, List.set_cons_succ] at g4
  have hch5 : Chg (fun k => k = w.heap.size) w3 ((((w3.setCell ⟨w.heap.size, 0, none⟩ (.string xk)).setCell ⟨w.heap.size, 1, none⟩ (.slice bo xb.length bc)).setCell ⟨w.heap.size, 2, none⟩ (.int .u64 (xv : Int))).setCell ⟨w.heap.size, 3, none⟩ (.int .u64 (xw : Int))) :=
    ((((Chg.refl (fun k => k = w.heap.size) w3).set (p := w.heap.size) rfl 0 _).set (p := w.heap.size) rfl 1 _).set (p := w.heap.size) rfl 2 _).set (p := w.heap.size) rfl 3 _
  have hbw := HT2.out.2.trans (hb3.mono HT2.out.2.size)
  have HF := Lib.hid (And.intro g4 (And.intro (hbw.trans (hch5.below hbw.size (fun k hk => Nat.le_of_eq hk.symm))) (And.intro (ho.keep hch5 (fun a ha h => by have := hnew a ha; have := heap_lt HT2.out.1; omega)) (fun a ha => Nat.le_trans HT2.out.2.size (hnew a ha)))))
  clear hb3 ho hnew g0 g4 hch5 hbw
  dsimp only [Nd.val]
  go_wp2
  generalize ((((w3.setCell ⟨w.heap.size, 0, none⟩ (.string xk)).setCell ⟨w.heap.size, 1, none⟩ (.slice bo xb.length bc)).setCell ⟨w.heap.size, 2, none⟩ (.int .u64 (xv : Int))).setCell ⟨w.heap.size, 3, none⟩ (.int .u64 (xw : Int))) = W5 at *
  obtain ⟨c0, c1, c2, c3, _⟩ := cells4 HF.out.1
  refine bodyPost_ret (v := .tuple #[(Nd.mk xk xb xv xw bo bc).val, .bool true]) (w := W5) ?_ rfl ?_
  · simp [results, Tryz.results53, go_sem, c0, c1, c2, c3]
    rfl
  · exact ⟨bo, bc, rfl, HF.out.2⟩
end Go.Proofs.YtackmgmaippajaaGreat.Tr
-- part TreeC
namespace Go.Proofs.YtackmgmaippajaaGreat.Tr
set_option maxRecDepth 100000
open Go Go.RowKit

def insP (l : List Pl) (t : Pl) : List Pl := match l with
  | [] => [t]
  | x :: l => if cmpB x.key t.key < 0 then x :: insP l t else t :: x :: l
theorem insP_at : ∀ {l : List Pl} {t : Pl} {i : Nat}, i ≤ l.length → LoP t.key l i → HiP t.key l i → insP l t = l.take i ++ [t] ++ l.drop i
  | [], t, i, hi, _, _ => by simp at hi; subst hi; rfl
  | x :: l, t, 0, _, _, hhi => by
    have := hhi 0 x (Nat.le_refl _) rfl
    rw [insP, if_neg (by omega)]; rfl
  | x :: l, t, i + 1, hi, hlo, hhi => by
    have := hlo 0 x (by omega) rfl
    rw [insP, if_pos this, insP_at (i := i) (by simpa using hi) (fun k y hk hy => hlo (k + 1) y (by omega) (by simpa using hy)) (fun k y hk hy => hhi (k + 1) y (by omega) (by simpa using hy))]
    rfl
def setP : List Pl → Pl → List Pl
  | [], _ => []
  | x :: l, t => if cmpB x.key t.key = 0 then t :: l else x :: setP l t
theorem setP_at : ∀ {ps : List Pl} {t : Pl} {i : Nat} {x : Pl}, LoP t.key ps i → ps[i]? = some x → cmpB x.key t.key = 0 → setP ps t = ps.set i t
  | [], _, _, _, _, hx, _ => by simp at hx
  | y :: ps, t, 0, x, _, hx, h0 => by simp at hx; subst hx; rw [setP, if_pos h0]; rfl
  | y :: ps, t, i + 1, x, hlo, hx, h0 => by
    have h1 := hlo 0 y (by omega) rfl
    rw [setP, if_neg (by omega), setP_at (i := i) (fun k z hk hz => hlo (k + 1) z (by omega) (by simpa using hz)) (by simpa using hx) h0]
    rfl
theorem insP_len (l : List Pl) (t : Pl) : (insP l t).length = l.length + 1 := by
  induction l with
  | nil => rfl
  | cons x l ih =>
    unfold insP
    split
    · simp [ih]
    · simp
theorem insP_mem {l : List Pl} {t y : Pl} : y ∈ insP l t ↔ y = t ∨ y ∈ l := by
  induction l with
  | nil => simp [insP]
  | cons x l ih =>
    unfold insP
    split
    · simp [ih]; constructor <;> rintro (h | h | h) <;> simp [h]
    · simp
theorem cmpB_pos {a b : ByteArray} (h1 : ¬ cmpB a b < 0) (h2 : cmpB a b ≠ 0) : cmpB b a < 0 := by
  have : cmpB b a = - cmpB a b := cb_flip
  omega
theorem insP_sorted {l : List Pl} {t : Pl} (h : Sorted l) (hn : ∀ y ∈ l, cmpB y.key t.key ≠ 0) : Sorted (insP l t) := by
  induction l with
  | nil => simp [insP, Sorted]
  | cons x l ih =>
    obtain ⟨h1, h2⟩ := List.pairwise_cons.1 h
    unfold insP
    split
    · rename_i hx
      refine List.pairwise_cons.2 ⟨fun y hy => ?_, ih h2 (fun y hy => hn y (by simp [hy]))⟩
      rcases insP_mem.1 hy with rfl | hy
      · exact hx
      · exact h1 y hy
    · rename_i hx
      have hxt := cmpB_pos hx (hn x (by simp))
      refine List.pairwise_cons.2 ⟨fun y hy => ?_, h⟩
      rcases List.mem_cons.1 hy with rfl | hy
      · exact hxt
      · exact cb_neg_trans hxt (h1 y hy)
theorem look_all {ps : List Pl} {key : ByteArray} (h : lookP ps key = none) : ∀ x ∈ ps, cmpB x.key key ≠ 0 := by
  induction ps with
  | nil => simp
  | cons y ps ih =>
    rw [lookP] at h
    by_cases h0 : cmpB y.key key = 0
    · rw [if_pos h0] at h; cases h
    · rw [if_neg h0] at h
      intro x hx
      rcases List.mem_cons.1 hx with rfl | hx
      · exact h0
      · exact ih h x hx
theorem Fine.ins {ps : List Pl} {t : Pl} (h : Fine ps) (hn : lookP ps t.key = none) (hl : ps.length < 256) (hb : t.body.length ≤ 3840) (hv : t.ver < 18446744073709551616) (ho : t.own < 18446744073709551616) : Fine (insP ps t) := by
  refine ⟨insP_sorted h.sorted (look_all hn), by rw [insP_len]; omega, ?_, ?_, ?_⟩
  all_goals (
    intro x hx
    rcases insP_mem.1 hx with rfl | hx
    · assumption
    · first | exact h.body x hx | exact h.ver x hx | exact h.own x hx)
/-- What a Put of a new key leaves. -/
theorem ins_end {w w0 W w3 : World} {p i n cap xc : Nat} {lo xo : Option Addr} {l : List Nd} {ps : List Pl} {F : List Nat} {e : Nd} (h : TreeIs w p lo n cap l ps F) (hb0 : Chg (fun _ => False) w w0) (hbW : Chg (fun _ => False) w0 W) (hi : i ≤ n) (hlo : LoP e.key ps i) (hhi : HiP e.key ps i)
    (hbody : Own w0 1 e.vo e.body.length e.vc (e.body.map cb)) (hnew : ∀ a, e.vo = some a → w.heap.size ≤ a.block) (hin : InsPost lo n ((l.flatMap Nd.cells).take (i * 4) ++ e.cells ++ (l.flatMap Nd.cells).drop (i * 4)) W w3 xo xc)
    (hp3 : w3.heap[p]? = some (.cells #[.slice lo n cap] 144 (0, 0))) :
    Wrote w (w3.setCell ⟨p, 0, none⟩ (.slice xo (n + 1) xc)) p (insP ps e.pl) F := by
  obtain ⟨ho, hch, hx⟩ := hin
  obtain ⟨hl1, hl2⟩ := h.len
  have el : (l.flatMap Nd.cells).take (i * 4) ++ e.cells ++ (l.flatMap Nd.cells).drop (i * 4) = (l.take i ++ [e] ++ l.drop i).flatMap Nd.cells := by
    rw [fl_take el_e, fl_drop el_e]
    simp
  have ep : (l.take i ++ [e] ++ l.drop i).map Nd.pl = insP ps e.pl := by
    rw [insP_at (t := e.pl) (i := i) (by omega) hlo hhi, ← h.map]
    simp [List.map_take, List.map_drop]
  rw [el] at ho
  have hC : Chg (fun _ => False) w W := hb0.trans hbW (fun _ _ h => h)
  have hC3 : Chg (· ∈ F) w w3 := (hC.to (fun _ h => h.elim)).trans hch (fun k hk ⟨a, ha, ea⟩ => h.bF k (mem_blk.2 ⟨a, ha, ea⟩))
  have hW := hC.size
  have h3 := hch.size
  have hw0 := hb0.size
  have hw0W := hbW.size
  have hpx : ∀ a, xo = some a → a.block ≠ p := fun a ha => by
    rcases hx a ha with h4 | h4
    · intro e; exact h.apart (mem_blk.2 ⟨a, h4, e⟩)
    · have := h.lt p h.pF; omega
  have hset := Chg.one w3 p 0 (.slice xo (n + 1) xc)
  have hbl : ∀ a, e.vo = some a → a.block < w0.heap.size := fun a ha => (hbody.at_ a ha).2.1
  refine ⟨F ++ blk xo ++ blk e.vo, ⟨xo, n + 1, xc, l.take i ++ [e] ++ l.drop i, ⟨ep, heap_set hp3 0 _, ho.keep hset (fun a ha e => hpx a ha e), fun hk => ?_, fun y hy => ?_, by simp [h.pF], fun k hk => by simp [hk], fun k hk => ?_⟩⟩, hC3.set h.pF 0 _, fun k hk => ?_⟩
  · obtain ⟨a, ha, ea⟩ := mem_blk.1 hk
    exact hpx a ha ea
  · have hy' : y = e ∨ y ∈ l := by
      rcases List.mem_append.1 hy with hy | hy
      · rcases List.mem_append.1 hy with hy | hy
        · exact .inr (List.mem_of_mem_take hy)
        · exact .inl (by simpa using hy)
      · exact .inr (List.mem_of_mem_drop hy)
    rcases hy' with rfl | hy'
    · have hnp : ∀ a, y.vo = some a → a.block ≠ p := fun a ha => by have := hnew a ha; have := h.lt p h.pF; omega
      have hnl : ∀ a, y.vo = some a → a.block ∉ blk lo := fun a ha hk => by have := hnew a ha; have := h.lt _ (h.bF _ hk); omega
      refine ⟨hset.row (hch.row (hbW.row hbody.row (fun _ _ h => h)) (fun a ha ⟨a', ha', ea⟩ => hnl a ha (mem_blk.2 ⟨a', ha', ea⟩))) (fun a ha h => hnp a ha h), hbody.le, fun a ha => ⟨by simp [mem_blk.2 ⟨a, ha, rfl⟩], hnp a ha, fun hk => ?_⟩⟩
      obtain ⟨a', ha', ea⟩ := mem_blk.1 hk
      rcases hx a' ha' with h4 | h4
      · exact hnl a ha (mem_blk.2 ⟨a', h4, ea⟩)
      · have := hbl a ha; omega
    · obtain ⟨b1, b2, b3⟩ := h.body y hy'
      refine ⟨hset.row (hch.row (hC.row b1 (fun _ _ h => h)) (fun a ha ⟨a', ha', ea⟩ => (b3 a ha).2.2 (mem_blk.2 ⟨a', ha', ea⟩))) (fun a ha h => (b3 a ha).2.1 h), b2, fun a ha => ⟨by simp [(b3 a ha).1], (b3 a ha).2.1, fun hk => ?_⟩⟩
      obtain ⟨a', ha', ea⟩ := mem_blk.1 hk
      rcases hx a' ha' with h4 | h4
      · exact (b3 a ha).2.2 (mem_blk.2 ⟨a', h4, ea⟩)
      · have := h.lt _ (b3 a ha).1; omega
  · have hs5 := hset.size
    rcases List.mem_append.1 hk with hk | hk
    · rcases List.mem_append.1 hk with hk | hk
      · have := h.lt k hk; omega
      · obtain ⟨a, ha, ea⟩ := mem_blk.1 hk
        have := (ho.at_ a ha).2.1; omega
    · obtain ⟨a, ha, ea⟩ := mem_blk.1 hk
      have := hbl a ha; omega
  · rcases List.mem_append.1 hk with hk | hk
    · rcases List.mem_append.1 hk with hk | hk
      · exact .inl hk
      · obtain ⟨a, ha, ea⟩ := mem_blk.1 hk
        rcases hx a ha with h4 | h4
        · exact .inl (h.bF k (mem_blk.2 ⟨a, h4, ea⟩))
        · right; omega
    · obtain ⟨a, ha, ea⟩ := mem_blk.1 hk
      right; have := hnew a ha; omega
set_option maxHeartbeats 2000000 in
set_option maxRecDepth 100000 in
theorem put_new (p : Nat) (ps : List Pl) (F : List Nat) (key : ByteArray) (vo : Option Addr) (m c : Nat) (val : List UInt8) (own : Nat) (w : World) (h : TreeAt w p ps F) (hf : Fine ps) (hk0 : key.size ≠ 0) (hk : key.size ≤ 64) (hv : Bts w vo val) (hm : val.length = m) (hm4 : m ≤ 3840) (hl : lookP ps key = none) (hlen : ps.length < 256) :
    Calls Tryz.prog 80 #[.pointer (some ⟨p, 0, none⟩), .string key, .slice vo m c, .int .u64 0, .int .u64 (own : Int)] w fun r w' => r = .returned (.tuple #[.int .u64 1, .int .i64 0]) ∧ Wrote w w' p (insP ps ⟨key, val, 1, own⟩) F := by
  obtain ⟨lo, n, cap, l, h⟩ := h
  have HFD := Lib.hid (find_any p lo n cap l ps F key w h hf.sorted (Nat.le_trans hf.len (by decide)))
  have HI := Lib.hid (And.intro h (And.intro hv hm))
  have hn256 : n < 256 := by have := h.len.2; omega
  have hkI : ¬ (64 : Int) < (key.size : Int) := by omega
  have hmI : ¬ (3840 : Int) < (m : Int) := by omega
  have hnI : decide ((256 : Int) ≤ (n : Int)) = false := decide_eq_false (by omega)
  have hke : key.toList.isEmpty = false := by
    rw [ba_toList]
    cases hq : key.data.toList with
    | nil => exact absurd (by show key.data.size = 0; rw [← Array.length_toList, hq]; rfl) hk0
    | cons a b => rfl
  have hkn : ¬ key.toList = [] := fun h0 => by rw [h0] at hke; cases hke
  clear h hv hm
  go_enter Tryz.func80, Tryz.ntmps80
  go_wp2_with fail
  (with_reducible refine HFD.out.mono ?_)
  rintro r w2 ⟨i, fd, rfl, hb2, hin, hlo, hhi, hfd⟩
  obtain rfl : fd = false := by
    cases fd with
    | false => rfl
    | true =>
      obtain ⟨x, hx, h0⟩ := hfd.1 rfl
      rw [look_some hlo hx h0] at hl; cases hl
  have hC2 := Chg.of_below hb2 (fun _ => False)
  obtain ⟨z0, z2⟩ := cells1 (hC2.heap HI.out.1.heap (fun h => h))
  have HCL := Lib.hid (clone_any vo m c val w2 HI.out.2.2 (by omega) (HI.out.2.1.below hb2))
  have H2 := Lib.hid (And.intro hC2 (And.intro hin (And.intro hlo (And.intro hhi hb2))))
  clear hb2 hin hlo hhi hfd hC2 hl
  go_wp2_with fail
  (with_reducible refine HCL.out.mono ?_)
  rintro r w3 ⟨bo, bc, rfl, hb3, ho3, hn3⟩
  have hC3 := H2.out.1.trans (Chg.of_below hb3 (fun _ => False)) (fun _ _ h => h)
  have H3 := Lib.hid (And.intro hC3 (And.intro (show Own w3 1 bo val.length bc (val.map cb) by rw [HI.out.2.2]; exact ho3) (fun a ha => Nat.le_trans H2.out.1.size (hn3 a ha))))
  have hA := (Chg.refl (fun _ => False) w3).alloc (.cells #[.string key, .slice bo m bc, .int .u64 1, .int .u64 (own : Int)] 78)
  have hp4 := hA.heap (hC3.heap HI.out.1.heap (fun h => h)) (fun h => h)
  have hT4 := heap_top w3 (.cells #[.string key, .slice bo m bc, .int .u64 1, .int .u64 (own : Int)] 78)
  have hI4 := HI.out.1.own.keep (hC3.trans hA (fun _ _ h => h)) (fun _ _ h => h)
  have hTl : ∀ q, lo = some q → q.block ≠ w3.heap.size := fun q hq => by have := (HI.out.1.own.at_ q hq).2.1; have := hC3.size; omega
  have hTp : ¬ w3.heap.size = p := by have := HI.out.1.lt p HI.out.1.pF; have := hC3.size; omega
  have hTp' : ¬ p = w3.heap.size := fun h => hTp h.symm
  clear z0 z2 hb3 ho3 hn3 hC3
  go_upto_region 20 with fail
  obtain ⟨u0, u2⟩ := cells1 hp4
  obtain ⟨t0, t1, t2, t3, _⟩ := cells4 hT4
  have HW := Lib.hid (And.intro hA (And.intro hp4 (And.intro hT4 (And.intro hI4 hTl))))
  clear hA hp4 hT4 hI4 hTl
  generalize w3.alloc (.cells #[.string key, .slice bo m bc, .int .u64 1, .int .u64 (own : Int)] 78) = W4 at *
  generalize w3.heap.size = T at *
  have u0d : W4.drew.cell? ⟨p, 0, none⟩ = some (.slice lo n cap) := u0
  have t0d : W4.drew.cell? ⟨T, 0, none⟩ = some (.string key) := t0
  have t1d : W4.drew.cell? ⟨T, 1, none⟩ = some (.slice bo m bc) := t1
  have t2d : W4.drew.cell? ⟨T, 2, none⟩ = some (.int .u64 1) := t2
  have t3d : W4.drew.cell? ⟨T, 3, none⟩ = some (.int .u64 (own : Int)) := t3
  have u0e : (W4.alloc (.cells #[.string key, .slice bo m bc, .int .u64 1, .int .u64 (own : Int)] 78)).drew.cell? ⟨p, 0, none⟩ = some (.slice lo n cap) := alloc_cell u0
  have hAl : Chg (fun _ => False) W4 (W4.alloc (.cells #[.string key, .slice bo m bc, .int .u64 1, .int .u64 (own : Int)] 78)).drew := ((Chg.refl (fun _ => False) W4).alloc _).drew
  have hOw := HW.out.2.2.2.1
  have hlt2 : ∀ q, lo = some q → q.block ≠ W4.heap.size := fun q hq => Nat.ne_of_lt (hOw.at_ q hq).2.1
  have HIN := Lib.hid (insert_any lo n cap (i : Int) i (l.flatMap Nd.cells) [.string key, .slice bo m bc, .int .u64 1, .int .u64 (own : Int)] W4.heap.size #[.string key, .slice bo m bc, .int .u64 1, .int .u64 (own : Int)] 78 (W4.alloc (.cells #[.string key, .slice bo m bc, .int .u64 1, .int .u64 (own : Int)] 78)).drew (hOw.keep hAl (fun _ _ h => h)) rfl H2.out.2.1 (by omega) (fl_one el_e l) rfl (by
    have := el_e.one ⟨key, val, 1, own, bo, bc⟩
    simp only [Nd.cells, HI.out.2.2] at this
    exact this) (heap_top W4 _) rfl hlt2)
  clear hOw hlt2
  go_wp2
  go_region_with (go_at_call 111; (with_reducible refine HIN.out.mono ?_); rintro r w5 ⟨xo, xc, rfl, hin5⟩; have hp5 := hin5.2.1.heap (hAl.heap HW.out.2.1 (fun h => h)) (fun ⟨q, hq, e⟩ => HI.out.1.apart (mem_blk.2 ⟨q, hq, e⟩)); obtain ⟨f0, f2⟩ := cells1 hp5; have hT5 := hin5.2.1.heap (hAl.heap HW.out.2.2.1 (fun h => h)) (fun ⟨q, hq, e⟩ => HW.out.2.2.2.2 q hq e); obtain ⟨k0, k1, k2, k3, _⟩ := cells4 hT5; have H5 := Lib.hid (And.intro hin5 hp5); clear hin5 hp5 hT5)
  all_goals go_wp2
  all_goals (
    go_ret2
    exact ⟨rfl, ins_end (e := ⟨key, val, 1, own, bo, bc⟩) HI.out.1 H3.out.1 (HW.out.1.trans hAl (fun _ _ h => h)) H2.out.2.1 H2.out.2.2.1 H2.out.2.2.2.1 H3.out.2.1 H3.out.2.2 (by simp only [Nd.cells, HI.out.2.2]; exact H5.out.1) H5.out.2⟩)
end Go.Proofs.YtackmgmaippajaaGreat.Tr
-- part TreeD
namespace Go.Proofs.YtackmgmaippajaaGreat.Tr
set_option maxRecDepth 100000
open Go Go.RowKit

theorem fl_set4 {E : Type} {cells : E → List Value} (h : Elem cells 4) (es : List E) (i : Nat) (e : E) (v0 v1 v2 v3 : Value) (hc : cells e = [v0, v1, v2, v3]) (hi : i < es.length) : ((((es.flatMap cells).set (i * 4) v0).set (i * 4 + 1) v1).set (i * 4 + 2) v2).set (i * 4 + 3) v3 = (es.set i e).flatMap cells := by
  induction es generalizing i with
  | nil => simp at hi
  | cons x es ih =>
    have hx := h.len x
    obtain ⟨a0, a1, a2, a3, hx⟩ : ∃ a0 a1 a2 a3, cells x = [a0, a1, a2, a3] := by
      match hl : cells x, hx with
      | [a0, a1, a2, a3], _ => exact ⟨a0, a1, a2, a3, rfl⟩
    cases i with
    | zero => simp [hx, hc]
    | succ i =>
      simp at hi
      rw [List.set_cons_succ, List.flatMap_cons, List.flatMap_cons, ← ih i hi, hx]
      rw [show (i + 1) * 4 = i * 4 + 1 + 1 + 1 + 1 by omega]
      simp
theorem key_facts {key : ByteArray} (hk0 : key.size ≠ 0) : key.toList.isEmpty = false ∧ ¬ key.toList = [] := by
  have hke : key.toList.isEmpty = false := by
    rw [ba_toList]
    cases hq : key.data.toList with
    | nil => exact absurd (by show key.data.size = 0; rw [← Array.length_toList, hq]; rfl) hk0
    | cons a b => rfl
  exact ⟨hke, fun h0 => by rw [h0] at hke; cases hke⟩
/-! ### refused -/
set_option maxHeartbeats 1000000 in
theorem put_exists (p : Nat) (ps : List Pl) (F : List Nat) (key : ByteArray) (x : Pl) (vo : Option Addr) (m c : Nat) (own : Int) (w : World) (h : TreeAt w p ps F) (hf : Fine ps) (hk0 : key.size ≠ 0) (hk : key.size ≤ 64) (hm4 : m ≤ 3840) (hl : lookP ps key = some x) :
    Calls Tryz.prog 80 #[.pointer (some ⟨p, 0, none⟩), .string key, .slice vo m c, .int .u64 0, .int .u64 own] w fun r w' => r = .returned (.tuple #[.int .u64 0, .int .i64 12]) ∧ Below w.heap.size w w' := by
  obtain ⟨lo, n, cap, l, h⟩ := h
  have HFD := Lib.hid (find_any p lo n cap l ps F key w h hf.sorted (Nat.le_trans hf.len (by decide)))
  obtain ⟨hke, hkn⟩ := key_facts hk0
  have hkI : ¬ (64 : Int) < (key.size : Int) := by omega
  have hmI : ¬ (3840 : Int) < (m : Int) := by omega
  clear h
  go_enter Tryz.func80, Tryz.ntmps80
  go_wp2_with fail
  (with_reducible refine HFD.out.mono ?_)
  rintro r w2 ⟨i, fd, rfl, hb2, hin, hlo, hhi, hfd⟩
  obtain rfl : fd = true := by
    cases fd with
    | true => rfl
    | false =>
      rw [look_no hf.sorted hlo hhi (fun h => by have := hfd.2 h; cases this)] at hl; cases hl
  have H2 := Lib.hid hb2
  clear hb2 hin hlo hhi hfd
  go_wp2
  go_ret2
  exact ⟨rfl, H2.out⟩
set_option maxHeartbeats 1000000 in
theorem put_version (p : Nat) (ps : List Pl) (F : List Nat) (key : ByteArray) (x : Pl) (vo : Option Addr) (m c want : Nat) (own : Int) (w : World) (h : TreeAt w p ps F) (hf : Fine ps) (hk0 : key.size ≠ 0) (hk : key.size ≤ 64) (hm4 : m ≤ 3840) (hl : lookP ps key = some x) (hw0 : want ≠ 0) (hx : x.ver ≠ want) :
    Calls Tryz.prog 80 #[.pointer (some ⟨p, 0, none⟩), .string key, .slice vo m c, .int .u64 (want : Int), .int .u64 own] w fun r w' => r = .returned (.tuple #[.int .u64 0, .int .i64 13]) ∧ Below w.heap.size w w' := by
  obtain ⟨lo, n, cap, l, h⟩ := h
  have HFD := Lib.hid (find_any p lo n cap l ps F key w h hf.sorted (Nat.le_trans hf.len (by decide)))
  have HI := Lib.hid h
  obtain ⟨hke, hkn⟩ := key_facts hk0
  have hkI : ¬ (64 : Int) < (key.size : Int) := by omega
  have hmI : ¬ (3840 : Int) < (m : Int) := by omega
  have hwI : ((want : Int) == 0) = false := by simp; omega
  clear h
  go_enter Tryz.func80, Tryz.ntmps80
  go_wp2_with fail
  (with_reducible refine HFD.out.mono ?_)
  rintro r w2 ⟨i, fd, rfl, hb2, hin, hlo, hhi, hfd⟩
  obtain rfl : fd = true := by
    cases fd with
    | true => rfl
    | false =>
      rw [look_no hf.sorted hlo hhi (fun h => by have := hfd.2 h; cases this)] at hl; cases hl
  obtain ⟨x', hx', h0⟩ := hfd.1 rfl
  obtain rfl : x' = x := by rw [look_some hlo hx' h0] at hl; exact Option.some.inj hl
  obtain ⟨e, he, rfl⟩ := HI.out.got hx'
  have HI2 := Lib.hid (HI.out.keep (Chg.of_below hb2 (fun _ => False)) (fun _ _ h => h))
  have hii : (i : Int) < (n : Int) := by have := (List.getElem?_eq_some_iff.1 he).1; have := HI.out.len.1; omega
  have hi0 : (0 : Int) ≤ (i : Int) := by omega
  obtain ⟨b, off, hlo', q0, q1, q2, q3⟩ := nd_at HI2.out.own.row he
  subst hlo'
  obtain ⟨z0, z2⟩ := cells1 HI2.out.heap
  have hvI : ((e.ver : Int) == (want : Int)) = false := by
    have : e.ver ≠ want := hx
    simp; omega
  have H2 := Lib.hid hb2
  clear hb2 hin hlo hhi hfd hx' h0 hl he hx
  generalize (e.ver : Int) = V at *
  go_wp2
  go_ret2
  exact ⟨rfl, H2.out⟩
theorem set_end {w w0 W : World} {p i n cap b off : Nat} {l : List Nd} {ps : List Pl} {F : List Nat} {e : Nd} {x : Pl} (h : TreeIs w p (some ⟨b, off, none⟩) n cap l ps F) (hb0 : Chg (fun _ => False) w w0) (hbW : Chg (fun _ => False) w0 W) (hlo : LoP e.key ps i) (hx : ps[i]? = some x) (h0 : cmpB x.key e.key = 0)
    (hbody : Own w0 1 e.vo e.body.length e.vc (e.body.map cb)) (hnew : ∀ a, e.vo = some a → w.heap.size ≤ a.block) :
    Wrote w ((((W.setCell ⟨b, off + i * 4, none⟩ (.string e.key)).setCell ⟨b, off + i * 4 + 1, none⟩ (.slice e.vo e.body.length e.vc)).setCell ⟨b, off + i * 4 + 2, none⟩ (.int .u64 (e.ver : Int))).setCell ⟨b, off + i * 4 + 3, none⟩ (.int .u64 (e.own : Int))) p (setP ps e.pl) F := by
  obtain ⟨hl1, hl2⟩ := h.len
  have hil : i < n := by have := (List.getElem?_eq_some_iff.1 hx).1; omega
  have hC : Chg (fun _ => False) w W := hb0.trans hbW (fun _ _ h => h)
  have hW := hC.size
  have hw0W := hbW.size
  have hw0 := hb0.size
  have h1 := (h.own.keep hC (fun _ _ h => h)).set (i * 4) (.string e.key) (by omega)
  have h2 := h1.set (i * 4 + 1) (.slice e.vo e.body.length e.vc) (by omega)
  have h3 := h2.set (i * 4 + 2) (.int .u64 (e.ver : Int)) (by omega)
  have h4 := h3.set (i * 4 + 3) (.int .u64 (e.own : Int)) (by omega)
  rw [fl_set4 el_e l i e _ _ _ _ rfl (by omega)] at h4
  simp only [← Nat.add_assoc] at h4
  have hch : Chg (fun k => k = b) W ((((W.setCell ⟨b, off + i * 4, none⟩ (.string e.key)).setCell ⟨b, off + i * 4 + 1, none⟩ (.slice e.vo e.body.length e.vc)).setCell ⟨b, off + i * 4 + 2, none⟩ (.int .u64 (e.ver : Int))).setCell ⟨b, off + i * 4 + 3, none⟩ (.int .u64 (e.own : Int))) :=
    ((((Chg.refl (fun k => k = b) W).set (p := b) rfl _ _).set (p := b) rfl _ _).set (p := b) rfl _ _).set (p := b) rfl _ _
  have hbF : b ∈ F := h.bF b (mem_blk.2 ⟨_, rfl, rfl⟩)
  have hpb : p ≠ b := fun e => h.apart (mem_blk.2 ⟨_, rfl, e.symm⟩)
  have hbl : ∀ a, e.vo = some a → a.block < w0.heap.size := fun a ha => (hbody.at_ a ha).2.1
  refine ⟨F ++ blk e.vo, ⟨some ⟨b, off, none⟩, n, cap, l.set i e, ⟨?_, hch.heap (hC.heap h.heap (fun h => h)) hpb, h4, h.apart, fun y hy => ?_, by simp [h.pF], fun k hk => by simp [h.bF k hk], fun k hk => ?_⟩⟩, (hC.to (fun _ h => h.elim)).trans hch (fun k _ e => e ▸ hbF), fun k hk => ?_⟩
  · rw [setP_at (t := e.pl) hlo hx h0, ← h.map, List.map_set]
  · rcases List.mem_or_eq_of_mem_set hy with hy | rfl
    · obtain ⟨b1, b2, b3⟩ := h.body y hy
      exact ⟨hch.row (hC.row b1 (fun _ _ h => h)) (fun a ha e => (b3 a ha).2.2 (mem_blk.2 ⟨_, rfl, e.symm⟩)), b2, fun a ha => ⟨by simp [(b3 a ha).1], (b3 a ha).2⟩⟩
    · have hnb : ∀ a, y.vo = some a → a.block ≠ b := fun a ha e => by have := hnew a ha; have := h.lt b hbF; omega
      refine ⟨hch.row (hbW.row hbody.row (fun _ _ h => h)) hnb, hbody.le, fun a ha => ⟨by simp [mem_blk.2 ⟨a, ha, rfl⟩], fun e => ?_, fun hk => ?_⟩⟩
      · have := hnew a ha; have := h.lt p h.pF; omega
      · obtain ⟨a', ha', ea⟩ := mem_blk.1 hk
        cases ha'
        exact hnb a ha ea.symm
  · have hs := hch.size
    rcases List.mem_append.1 hk with hk | hk
    · have := h.lt k hk; omega
    · obtain ⟨a, ha, ea⟩ := mem_blk.1 hk
      have := hbl a ha; omega
  · rcases List.mem_append.1 hk with hk | hk
    · exact .inl hk
    · obtain ⟨a, ha, ea⟩ := mem_blk.1 hk
      right; have := hnew a ha; omega
set_option maxHeartbeats 2000000 in
set_option maxRecDepth 100000 in
theorem put_set (p : Nat) (ps : List Pl) (F : List Nat) (key : ByteArray) (x : Pl) (vo : Option Addr) (m c : Nat) (val : List UInt8) (want nv : Nat) (own : Int) (w : World) (h : TreeAt w p ps F) (hf : Fine ps) (hk0 : key.size ≠ 0) (hk : key.size ≤ 64) (hv : Bts w vo val) (hm : val.length = m) (hm4 : m ≤ 3840) (hl : lookP ps key = some x) (hw0 : want ≠ 0) (hx : x.ver = want) (hnv : IntKind.u64.wrap ((want : Int) + 1) = (nv : Int)) :
    Calls Tryz.prog 80 #[.pointer (some ⟨p, 0, none⟩), .string key, .slice vo m c, .int .u64 (want : Int), .int .u64 own] w fun r w' => r = .returned (.tuple #[.int .u64 (nv : Int), .int .i64 0]) ∧ Wrote w w' p (setP ps ⟨key, val, nv, x.own⟩) F := by
  obtain ⟨lo, n, cap, l, h⟩ := h
  have HFD := Lib.hid (find_any p lo n cap l ps F key w h hf.sorted (Nat.le_trans hf.len (by decide)))
  have HI := Lib.hid (And.intro h (And.intro hv hm))
  obtain ⟨hke, hkn⟩ := key_facts hk0
  have hkI : ¬ (64 : Int) < (key.size : Int) := by omega
  have hmI : ¬ (3840 : Int) < (m : Int) := by omega
  have hwI : ((want : Int) == 0) = false := by simp; omega
  clear h hv hm
  go_enter Tryz.func80, Tryz.ntmps80
  go_wp2_with fail
  (with_reducible refine HFD.out.mono ?_)
  rintro r w2 ⟨i, fd, rfl, hb2, hin, hlo, hhi, hfd⟩
  obtain rfl : fd = true := by
    cases fd with
    | true => rfl
    | false =>
      rw [look_no hf.sorted hlo hhi (fun h => by have := hfd.2 h; cases this)] at hl; cases hl
  obtain ⟨x', hx', h0⟩ := hfd.1 rfl
  obtain rfl : x' = x := by rw [look_some hlo hx' h0] at hl; exact Option.some.inj hl
  obtain ⟨e, he, rfl⟩ := HI.out.1.got hx'
  have hC2 := Chg.of_below hb2 (fun _ => False)
  have HI2 := Lib.hid (HI.out.1.keep hC2 (fun _ _ h => h))
  have hii : (i : Int) < (n : Int) := by have := (List.getElem?_eq_some_iff.1 he).1; have := HI.out.1.len.1; omega
  have hi0 : (0 : Int) ≤ (i : Int) := by omega
  obtain ⟨b, off, hlo', q0, q1, q2, q3⟩ := nd_at HI2.out.own.row he
  subst hlo'
  obtain ⟨z0, z2⟩ := cells1 HI2.out.heap
  have hve : e.ver = want := hx
  rw [hve] at q2
  have HCL := Lib.hid (clone_any vo m c val w2 HI.out.2.2 (by omega) (HI.out.2.1.below hb2))
  have H2 := Lib.hid (And.intro hC2 (And.intro hlo (And.intro hx' (And.intro h0 he))))
  clear hb2 hin hlo hhi hfd hx' h0 hl he hx hC2
  go_wp2_with fail
  (with_reducible refine HCL.out.mono ?_)
  rintro r w3 ⟨bo, bc, rfl, hb3, ho3, hn3⟩
  have hC3 := Chg.of_below hb3 (fun _ => False)
  have hA := (Chg.refl (fun _ => False) w3).alloc (.cells #[.string key, .slice bo m bc, .int .u64 (nv : Int), .int .u64 own] 78)
  have hA2 := (Chg.refl (fun _ => False) w3).alloc (.cells #[.string key, .slice bo m bc, .int .u64 (nv : Int), .int .u64 (e.own : Int)] 78)
  have r3 := (hC3.trans hA (fun _ _ h => h)).cell q3 (fun h => h)
  have y0 := (hC3.trans hA (fun _ _ h => h)).cell z0 (fun h => h)
  have s0 := (hC3.trans hA2 (fun _ _ h => h)).cell q0 (fun h => h)
  have H3 := Lib.hid (And.intro hC3 (And.intro ho3 (And.intro hn3 hA2)))
  clear hb3 ho3 hn3 hC3
  have HTb := Lib.hid (show ¬ w3.heap.size = b ∧ ¬ w3.heap.size = p from ⟨fun h => by have := HI2.out.lt b (HI2.out.bF b (mem_blk.2 ⟨_, rfl, rfl⟩)); have := H3.out.1.size; omega, fun h => by have := HI2.out.lt p HI2.out.pF; have := H3.out.1.size; omega⟩)
  have hI4 := HI2.out.keep (H3.out.1.trans H3.out.2.2.2 (fun _ _ h => h)) (fun _ _ h => h)
  have hT4 := heap_top w3 (.cells #[.string key, .slice bo m bc, .int .u64 (nv : Int), .int .u64 (e.own : Int)] 78)
  have hC4 := H3.out.2.2.2
  go_upto_region 19 with fail
  generalize w3.alloc (.cells #[.string key, .slice bo m bc, .int .u64 (nv : Int), .int .u64 (e.own : Int)] 78) = W4 at *
  generalize w3.heap.size = T at *
  clear q0 q1 q2 q3 z0 z2 r3 y0 s0 hA hA2
  obtain ⟨b', off', hbo, q0, q1, q2, q3⟩ := nd_at hI4.own.row H2.out.2.2.2.2
  cases hbo
  obtain ⟨z0, z2⟩ := cells1 hI4.heap
  obtain ⟨t0, t1, t2, t3, _⟩ := cells4 hT4
  have hnc := hI4.own.le
  have hin : i < n := by omega
  have hfr : ∀ j, j < cap * 4 → W4.frozen? ⟨b, off + j, none⟩ = false := fun j hj => ((hI4.own.at_ _ rfl).2.2.1 j hj).2
  have f0 := hfr (i * 4) (by omega)
  have f1 := hfr (i * 4 + 1) (by omega)
  have f2 := hfr (i * 4 + 2) (by omega)
  have f3 := hfr (i * 4 + 3) (by omega)
  simp only [← Nat.add_assoc] at f1 f2 f3
  obtain ⟨hTb, hTp⟩ := HTb.out
  have HI4 := Lib.hid (And.intro hI4 hC4)
  clear hI4 hT4 hC4 hfr hnc
  have z0d : W4.drew.cell? ⟨p, 0, none⟩ = some (.slice (some ⟨b, off, none⟩) n cap) := z0
  have t0d : W4.drew.cell? ⟨T, 0, none⟩ = some (.string key) := t0
  have t1d : W4.drew.cell? ⟨T, 1, none⟩ = some (.slice bo m bc) := t1
  have t2d : W4.drew.cell? ⟨T, 2, none⟩ = some (.int .u64 (nv : Int)) := t2
  have t3d : W4.drew.cell? ⟨T, 3, none⟩ = some (.int .u64 (e.own : Int)) := t3
  have q0d : W4.drew.cell? ⟨b, off + i * 4, none⟩ = some (.string e.key) := q0
  have q1d : W4.drew.cell? ⟨b, off + i * 4 + 1, none⟩ = some (.slice e.vo e.body.length e.vc) := q1
  have q2d : W4.drew.cell? ⟨b, off + i * 4 + 2, none⟩ = some (.int .u64 (e.ver : Int)) := q2
  have q3d : W4.drew.cell? ⟨b, off + i * 4 + 3, none⟩ = some (.int .u64 (e.own : Int)) := q3
  have f0d : W4.drew.frozen? ⟨b, off + i * 4, none⟩ = false := f0
  have f1d : W4.drew.frozen? ⟨b, off + i * 4 + 1, none⟩ = false := f1
  have f2d : W4.drew.frozen? ⟨b, off + i * 4 + 2, none⟩ = false := f2
  have f3d : W4.drew.frozen? ⟨b, off + i * 4 + 3, none⟩ = false := f3
  go_region
  all_goals go_wp2
  all_goals (
    go_ret2
    refine ⟨rfl, ?_⟩
    have := set_end (e := ⟨key, val, nv, e.own, bo, bc⟩) HI.out.1 (H2.out.1.trans H3.out.1 (fun _ _ h => h)) (HI4.out.2.drew) H2.out.2.1 H2.out.2.2.1 H2.out.2.2.2.1 (by dsimp only; rw [HI.out.2.2]; exact H3.out.2.1) (fun a ha => Nat.le_trans H2.out.1.size (H3.out.2.2.1 a ha))
    simp only [HI.out.2.2] at this
    exact this)
end Go.Proofs.YtackmgmaippajaaGreat.Tr
-- part TreeE
namespace Go.Proofs.YtackmgmaippajaaGreat.Tr
set_option maxRecDepth 100000
open Go Go.RowKit

theorem new_any (w : World) : Calls Tryz.prog 67 #[] w fun e w' => e = .returned (.pointer (some ⟨w.heap.size, 0, none⟩)) ∧ Below w.heap.size w w' ∧ TreeAt w' w.heap.size [] [w.heap.size] := by
  go_enter Tryz.func67, Tryz.ntmps67
  go_wp2
  go_ret
  exact ⟨rfl, (Below.refl _ w).alloc (Nat.le_refl _) _, none, 0, 0, [], rfl, heap_top w _, Own.nil' _ _, by simp [blk], by simp, by simp, by simp [blk], by simp⟩
/-- A tree that was made behind w0. -/
structure TreeIn (w0 w : World) (p : Nat) (ps : List Pl) (F : List Nat) : Prop where
  tree : TreeAt w p ps F
  new : ∀ k ∈ F, w0.heap.size ≤ k
  below : Below w0.heap.size w0 w
  fine : Fine ps
theorem TreeIn.keep {w0 w w' : World} {p : Nat} {ps : List Pl} {F : List Nat} (h : TreeIn w0 w p ps F) {S : Nat → Prop} (hc : Chg S w w') (hS : ∀ k ∈ F, ¬ S k) (hb : ∀ k, S k → w0.heap.size ≤ k) : TreeIn w0 w' p ps F :=
  ⟨h.tree.keep hc hS, h.new, h.below.trans (hc.below h.below.size hb), h.fine⟩
theorem TreeIn.stays {w0 w w' : World} {p : Nat} {ps : List Pl} {F : List Nat} (h : TreeIn w0 w p ps F) (hb : Below w.heap.size w w') : TreeIn w0 w' p ps F :=
  h.keep (Chg.of_below hb (fun _ => False)) (fun _ _ h => h) (fun _ h => h.elim)
theorem TreeIn.alloc {w0 w : World} {p : Nat} {ps : List Pl} {F : List Nat} (h : TreeIn w0 w p ps F) (o : Obj) : TreeIn w0 (w.alloc o) p ps F :=
  h.stays ((Below.refl _ w).alloc (Nat.le_refl _) o)
theorem TreeIn.wrote {w0 w w' : World} {p : Nat} {ps ps' : List Pl} {F : List Nat} (h : TreeIn w0 w p ps F) (hn : Wrote w w' p ps' F) (hf : Fine ps') : ∃ F', TreeIn w0 w' p ps' F' ∧ Chg (· ∈ F) w w' ∧ ∀ k ∈ F', k ∈ F ∨ w.heap.size ≤ k := by
  obtain ⟨F', h1, h2, h3⟩ := hn
  exact ⟨F', ⟨h1, fun k hk => (h3 k hk).elim (h.new k) (Nat.le_trans h.below.size), h.below.trans (h2.below h.below.size h.new), hf⟩, h2, h3⟩
theorem new_in (w0 w : World) (hb : Below w0.heap.size w0 w) : Calls Tryz.prog 67 #[] w fun e w' => ∃ p, e = .returned (.pointer (some ⟨p, 0, none⟩)) ∧ Below w.heap.size w w' ∧ TreeIn w0 w' p [] [p] := by
  refine (new_any w).mono ?_
  rintro e w' ⟨rfl, h1, h2⟩
  exact ⟨_, rfl, h1, ⟨h2, fun k hk => by rw [List.mem_singleton] at hk; subst hk; exact hb.size, hb.trans (h1.mono hb.size), Fine.nil⟩⟩
theorem setP_mem {l : List Pl} {t y : Pl} (h : y ∈ setP l t) : y = t ∨ y ∈ l := by
  induction l with
  | nil => cases h
  | cons x l ih =>
    rw [setP] at h
    split at h
    · rcases List.mem_cons.1 h with h | h
      · exact .inl h
      · exact .inr (List.mem_cons_of_mem _ h)
    · rcases List.mem_cons.1 h with rfl | h
      · exact .inr List.mem_cons_self
      · exact (ih h).imp id (List.mem_cons_of_mem _)
theorem setP_keys {l : List Pl} {t : Pl} : (setP l t).map Pl.key = l.map Pl.key := by
  induction l with
  | nil => rfl
  | cons x l ih =>
    rw [setP]
    split
    · rename_i h; simp [cmpB_zero.1 h]
    · simp [ih]
theorem sorted_keys {l m : List Pl} (h : l.map Pl.key = m.map Pl.key) (hs : Sorted l) : Sorted m := by
  have h1 : (l.map Pl.key).Pairwise (fun a b => cmpB a b < 0) := List.pairwise_map.2 hs
  rw [h] at h1
  exact List.pairwise_map.1 h1
theorem Fine.set {ps : List Pl} {t : Pl} (h : Fine ps) (hb : t.body.length ≤ 3840) (hv : t.ver < 18446744073709551616) (ho : t.own < 18446744073709551616) : Fine (setP ps t) := by
  have hl : (setP ps t).length = ps.length := by have := congrArg List.length (setP_keys (l := ps) (t := t)); simpa using this
  refine ⟨sorted_keys setP_keys.symm h.sorted, by rw [hl]; exact h.len, ?_, ?_, ?_⟩
  all_goals (
    intro x hx
    rcases setP_mem hx with rfl | hx
    · assumption
    · first | exact h.body x hx | exact h.ver x hx | exact h.own x hx)
theorem put_new_in (w0 : World) (p : Nat) (ps ps' : List Pl) (F : List Nat) (key : ByteArray) (vo : Option Addr) (m c : Nat) (val : List UInt8) (OWN : Int) (own : Nat) (w : World) (h : TreeIn w0 w p ps F) (hk : key.size ≠ 0 ∧ key.size ≤ 64) (hv : Bts w vo val) (hm : val.length = m) (hm4 : m ≤ 3840) (hl : lookP ps key = none) (hlen : ps.length < 256) (hO : OWN = (own : Int)) (ho : own < 18446744073709551616) (hp : insP ps ⟨key, val, 1, own⟩ = ps') :
    Calls Tryz.prog 80 #[.pointer (some ⟨p, 0, none⟩), .string key, .slice vo m c, .int .u64 0, .int .u64 OWN] w fun r w' => r = .returned (.tuple #[.int .u64 1, .int .i64 0]) ∧ ∃ F', TreeIn w0 w' p ps' F' ∧ Chg (· ∈ F) w w' ∧ ∀ k ∈ F', k ∈ F ∨ w.heap.size ≤ k := by
  subst hO; subst hp
  refine (put_new p ps F key vo m c val own w h.tree h.fine hk.1 hk.2 hv hm hm4 hl hlen).mono ?_
  rintro r w' ⟨rfl, h1⟩
  exact ⟨rfl, h.wrote h1 (h.fine.ins hl hlen (by dsimp only; omega) (by dsimp only; omega) ho)⟩
theorem put_set_in (w0 : World) (p : Nat) (ps ps' : List Pl) (F : List Nat) (key : ByteArray) (x : Pl) (vo : Option Addr) (m c : Nat) (val : List UInt8) (WANT OWN NV : Int) (want : Nat) (w : World) (h : TreeIn w0 w p ps F) (hk : key.size ≠ 0 ∧ key.size ≤ 64) (hv : Bts w vo val) (hm : val.length = m) (hm4 : m ≤ 3840) (hl : lookP ps key = some x) (hW : WANT = (want : Int)) (hw0 : want ≠ 0) (hw : want < 18446744073709551615) (hx : x.ver = want) (hNV : NV = ((want + 1 : Nat) : Int)) (hp : setP ps ⟨key, val, want + 1, x.own⟩ = ps') :
    Calls Tryz.prog 80 #[.pointer (some ⟨p, 0, none⟩), .string key, .slice vo m c, .int .u64 WANT, .int .u64 OWN] w fun r w' => r = .returned (.tuple #[.int .u64 NV, .int .i64 0]) ∧ ∃ F', TreeIn w0 w' p ps' F' ∧ Chg (· ∈ F) w w' ∧ ∀ k ∈ F', k ∈ F ∨ w.heap.size ≤ k := by
  subst hW; subst hNV; subst hp
  have hwr : IntKind.u64.wrap ((want : Int) + 1) = ((want + 1 : Nat) : Int) := by rw [IntWalk.u64_in _ (by omega)]; push_cast; rfl
  have hxo : x.own < 18446744073709551616 := by
    have : x ∈ ps := by
      clear hv h hx
      induction ps with
      | nil => cases hl
      | cons y ps ih =>
        rw [lookP] at hl
        split at hl
        · cases hl; exact List.mem_cons_self
        · exact List.mem_cons_of_mem _ (ih hl)
    exact h.fine.own x this
  refine (put_set p ps F key x vo m c val want (want + 1) OWN w h.tree h.fine hk.1 hk.2 hv hm hm4 hl hw0 hx hwr).mono ?_
  rintro r w' ⟨rfl, h1⟩
  exact ⟨rfl, h.wrote h1 (h.fine.set (by dsimp only; omega) (by dsimp only; omega) hxo)⟩
theorem get_in (w0 : World) (p : Nat) (ps : List Pl) (F : List Nat) (key xk : ByteArray) (xb : List UInt8) (XV XW : Int) (xv xw : Nat) (w : World) (h : TreeIn w0 w p ps F) (hl : lookP ps key = some ⟨xk, xb, xv, xw⟩) (hXV : XV = (xv : Int)) (hXW : XW = (xw : Int)) :
    Calls Tryz.prog 53 #[.pointer (some ⟨p, 0, none⟩), .string key] w fun r w' => ∃ bo bc, r = .returned (.tuple #[.agg #[.string xk, .slice bo xb.length bc, .int .u64 XV, .int .u64 XW], .bool true]) ∧ Below w.heap.size w w' ∧ Bts w' bo xb := by
  subst hXV; subst hXW
  refine (get_some p ps F key _ w h.tree h.fine hl).mono ?_
  rintro r w' ⟨bo, bc, rfl, h1, h2, _⟩
  exact ⟨bo, bc, rfl, h1, h2.bts⟩
theorem conv_const (c : Value) (w : World) : (convert 25 25 (.slice (some ⟨w.heap.size, 0, none⟩) 1 1)).run Tryz.prog (w.alloc (.cells #[c] 5)) = .ok (.slice (some ⟨w.heap.size, 0, none⟩) 1 1) (w.alloc (.cells #[c] 5 (1, 2))) :=
  Lib.run_convert_bytes_const w 25 5 #[c] 1 1 Tryz.underlying25 Tryz.underlying5
def kA : ByteArray := ⟨#[97]⟩
end Go.Proofs.YtackmgmaippajaaGreat.Tr
