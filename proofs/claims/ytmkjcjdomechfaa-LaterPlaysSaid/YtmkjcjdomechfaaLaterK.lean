/-
  LAYER 19: the document's Due.
-/
import Derived.Test.YtmkjcjdomechfaaLaterJ
import Derived.Test.YtmkjcjdomechfaaLaterE
namespace Go.Proofs.Ytmkjcjdomechfaa
open Go Go.RowKit

def dueF (l : List Wt) (now : Nat) : List Wt := l.filter (fun e => decide (e.at_ ≤ now))
def dueN (l : List Wt) (now : Nat) : List Wt := l.filter (fun e => !decide (e.at_ ≤ now))
theorem dueF_snoc (l : List Wt) (e : Wt) (now : Nat) : dueF (l ++ [e]) now = if e.at_ ≤ now then dueF l now ++ [e] else dueF l now := by
  unfold dueF
  rw [List.filter_append]
  by_cases h : e.at_ ≤ now
  · simp [h]
  · simp [h]
theorem dueN_snoc (l : List Wt) (e : Wt) (now : Nat) : dueN (l ++ [e]) now = if e.at_ ≤ now then dueN l now else dueN l now ++ [e] := by
  unfold dueN
  rw [List.filter_append]
  by_cases h : e.at_ ≤ now
  · simp [h]
  · simp [h]
theorem dueF_len (l : List Wt) (now : Nat) : (dueF l now).length ≤ l.length := List.length_filter_le ..
theorem dueN_len (l : List Wt) (now : Nat) : (dueN l now).length ≤ l.length := List.length_filter_le ..
theorem wsnext {l : List Wt} {k : Nat} {e : Wt} (he : l[k]? = some e) : l.take k ++ [e] = l.take (k + 1) := by
  rw [List.take_add_one, he]; rfl
/-- Where the document's Expire stands behind k sessions. -/
structure RDueRel (w wr : World) (l : List Wt) (now k : Nat) (oo : Option Addr) (on oc : Nat) (ko : Option Addr) (kn kc : Nat) : Prop where
  below : Below w.heap.size w wr
  out : Own wr 2 oo on oc ((dueF (l.take k) now).flatMap Wt.pos)
  kept : Own wr 3 ko kn kc ((dueN (l.take k) now).flatMap Wt.cells)
  onew : ∀ a, oo = some a → w.heap.size ≤ a.block
  knew : ∀ a, ko = some a → w.heap.size ≤ a.block
  two : ∀ a b, oo = some a → ko = some b → a.block ≠ b.block
theorem rdue_out {w wr w2 : World} {l : List Wt} {now k : Nat} {oo : Option Addr} {on oc : Nat} {ko : Option Addr} {kn kc : Nat} (h : RDueRel w wr l now k oo on oc ko kn kc) {e : Wt} (he : l[k]? = some e) (hx : e.at_ ≤ now) {C : Obj} {xo : Option Addr} {xc : Nat}
    (hx1 : Own w2 2 xo (on + 1) xc ((dueF (l.take k) now).flatMap Wt.pos ++ e.pos)) (hch : Chg (fun j => ∃ a, oo = some a ∧ a.block = j) (wr.alloc C) w2) (hx2 : ∀ a', xo = some a' → oo = some a' ∨ (wr.alloc C).heap.size ≤ a'.block) :
    RDueRel w w2 l now (k + 1) xo (on + 1) xc ko kn kc := by
  have hA := h.below.alloc h.below.size C
  have hkA : Own (wr.alloc C) 3 ko kn kc ((dueN (l.take k) now).flatMap Wt.cells) := h.kept.keep ((Chg.refl (fun _ => False) wr).alloc C) (fun _ _ h => h)
  refine ⟨hA.trans (hch.below hA.size (fun j ⟨a, ha, e⟩ => e ▸ h.onew a ha)), ?_, ?_, fun a ha => ?_, h.knew, fun a b ha hb => ?_⟩
  · rw [← wsnext he, dueF_snoc, if_pos hx, List.flatMap_append, List.flatMap_cons, List.flatMap_nil, List.append_nil]; exact hx1
  · rw [← wsnext he, dueN_snoc, if_pos hx]
    exact hkA.keep hch (fun b hb ⟨a, ha, e⟩ => h.two a b ha hb e)
  · rcases hx2 a ha with h' | h'
    · exact h.onew a h'
    · exact Nat.le_trans hA.size h'
  · rcases hx2 a ha with h' | h'
    · exact h.two a b h' hb
    · have := (h.kept.at_ b hb).2.1
      rw [size_alloc] at h'
      omega
theorem rdue_keep {w wr w2 : World} {l : List Wt} {now k : Nat} {oo : Option Addr} {on oc : Nat} {ko : Option Addr} {kn kc : Nat} (h : RDueRel w wr l now k oo on oc ko kn kc) {e : Wt} (he : l[k]? = some e) (hx : ¬ e.at_ ≤ now) {C : Obj} {xo : Option Addr} {xc : Nat}
    (hx1 : Own w2 3 xo (kn + 1) xc ((dueN (l.take k) now).flatMap Wt.cells ++ e.cells)) (hch : Chg (fun j => ∃ a, ko = some a ∧ a.block = j) (wr.alloc C) w2) (hx2 : ∀ a', xo = some a' → ko = some a' ∨ (wr.alloc C).heap.size ≤ a'.block) :
    RDueRel w w2 l now (k + 1) oo on oc xo (kn + 1) xc := by
  have hA := h.below.alloc h.below.size C
  have hoA : Own (wr.alloc C) 2 oo on oc ((dueF (l.take k) now).flatMap Wt.pos) := h.out.keep ((Chg.refl (fun _ => False) wr).alloc C) (fun _ _ h => h)
  refine ⟨hA.trans (hch.below hA.size (fun j ⟨a, ha, e⟩ => e ▸ h.knew a ha)), ?_, ?_, h.onew, fun a ha => ?_, fun a b ha hb => ?_⟩
  · rw [← wsnext he, dueF_snoc, if_neg hx]
    exact hoA.keep hch (fun a ha ⟨b, hb, e⟩ => h.two a b ha hb e.symm)
  · rw [← wsnext he, dueN_snoc, if_neg hx, List.flatMap_append, List.flatMap_cons, List.flatMap_nil, List.append_nil]; exact hx1
  · rcases hx2 a ha with h' | h'
    · exact h.knew a h'
    · exact Nat.le_trans hA.size h'
  · rcases hx2 b hb with h' | h'
    · exact h.two a b ha h'
    · have := (h.out.at_ a ha).2.1
      rw [size_alloc] at h'
      omega
set_option maxHeartbeats 1000000 in
set_option maxRecDepth 100000 in
theorem rdue_any (p now : Nat) (l : List Wt) (F : List Nat) (w : World) (h : RListAt w p l F) (hl : l.length ≤ 1000000) :
    Calls Try.prog 16 #[.pointer (some ⟨p, 0, none⟩), .int .u64 (now : Int)] w fun e w' => ∃ uo m uc, e = .returned (.slice uo m uc) ∧ Own w' 2 uo m uc ((dueF l now).flatMap Wt.pos) ∧ (∀ a, uo = some a → w.heap.size ≤ a.block) ∧ RWrote w w' p (dueN l now) F := by
  obtain ⟨lo, n, cap, h1, h2, h3, hF⟩ := h
  have hn := fl_own_len el_e h2
  have hn6 : n ≤ 1000000 := by omega
  have hpl := heap_lt h1
  have HX := Lib.hid (And.intro h1 (And.intro h2 (And.intro h3 (And.intro hF hn))))
  clear h1 h2 h3 hF hn hl
  go_enter Try.func16, Try.ntmps16
  go_wp2
  go_loopg [5, 6, 7] n (fun g v5 v6 v7 wr => ∃ (k : Nat) (oo : Option Addr) (on oc : Nat) (ko : Option Addr) (kn kc : Nat), g + k = n ∧ v7 = .int .i64 k ∧ v5 = .slice oo on oc ∧ v6 = .slice ko kn kc ∧ RDueRel w wr l now k oo on oc ko kn kc)
  case atStart => exact ⟨0, none, 0, 0, none, 0, 0, by omega, rfl, rfl, rfl, Below.refl _ _, Own.nil' _ _, Own.nil' _ _, fun _ h => (nomatch h), fun _ h => (nomatch h), fun _ _ h => (nomatch h)⟩
  case round =>
    obtain ⟨k, oo, on, oc, ko, kn, kc, hgk, rfl, rfl, rfl, hrel⟩ := hrel
    have hC := Chg.of_below hrel.below (fun _ => False)
    have hp1 := hC.heap HX.out.1 (fun h => h)
    obtain ⟨z0, z2⟩ := cells1 hp1
    have hon : on ≤ 1000000 := by
      have h1 := fl_own_len el_pos hrel.out
      have h2 := dueF_len (l.take k) now
      rw [List.length_take] at h2
      omega
    have hkn : kn ≤ 1000000 := by
      have h1 := fl_own_len el_e hrel.kept
      have h2 := dueN_len (l.take k) now
      rw [List.length_take] at h2
      omega
    have HR := Lib.hid (And.intro hrel hp1)
    have hol := HX.out.2.1.keep hC (fun _ _ h => h)
    clear hC hp1 hrel
    by_cases hk : k < n
    · obtain ⟨e, he⟩ : ∃ e, l[k]? = some e := ⟨_, List.getElem?_eq_getElem (by rw [HX.out.2.2.2.2]; exact hk)⟩
      obtain ⟨b, off, rfl, c0, c1, c2⟩ := wt_at hol.row he
      have HE := Lib.hid he
      have HOA := Lib.hid (fun C => And.intro (HR.out.1.out.keep ((Chg.refl (fun _ => False) wr).alloc C) (fun _ _ h => h)) (HR.out.1.kept.keep ((Chg.refl (fun _ => False) wr).alloc C) (fun _ _ h => h)))
      clear hol he
      by_cases hexp : e.at_ ≤ now
      · have hx : (e.at_ : Int) ≤ (now : Int) := by omega
        go_wp2_with (at_builtin; refine wpList_append' rfl (.tmp 27) (.tmp 36) el_p rfl rfl rfl (HOA.out _).1 (m := 1) (news := e.pos) rfl (Row.alloc wr #[.int .u64 (e.led : Int), .int .u64 (e.ent : Int)] _ _) (el_pos.one e) (by unfold maxLen; omega) (by omega) ?_; intro xo xc w2 hx hch _ hx2; have H2 := Lib.hid (rdue_out HR.out.1 HE.out hexp hx hch hx2); clear hx hch hx2)
        go_roundg (gk - 1)
        case measure => omega
        case rel => exact ⟨k + 1, xo, on + 1, xc, ko, kn, kc, by omega, by go_num, rfl, rfl, H2.out⟩
      · have hx : ¬ (e.at_ : Int) ≤ (now : Int) := by omega
        go_wp2_with (at_builtin; refine wpList_append' rfl (.tmp 38) (.tmp 46) el_s rfl rfl rfl (HOA.out _).2 (m := 1) (news := e.cells) rfl (Row.alloc wr #[.int .u64 (e.at_ : Int), .int .u64 (e.led : Int), .int .u64 (e.ent : Int)] _ _) (el_e.one e) (by unfold maxLen; omega) (by omega) ?_; intro xo xc w2 hx hch _ hx2; have H2 := Lib.hid (rdue_keep HR.out.1 HE.out hexp hx hch hx2); clear hx hch hx2)
        go_roundg (gk - 1)
        case measure => omega
        case rel => exact ⟨k + 1, oo, on, oc, xo, kn + 1, xc, by omega, by go_num, rfl, rfl, H2.out⟩
    · obtain rfl : k = n := by omega
      clear hol
      go_wp2
      go_ret
      obtain ⟨g, hp1⟩ := HR.out
      have htk : l.take k = l := List.take_of_length_le (by rw [HX.out.2.2.2.2]; exact Nat.le_refl _)
      have hpo : ∀ a, oo = some a → ¬ a.block = p := fun a ha e => by have := g.onew a ha; omega
      refine ⟨oo, on, oc, rfl, ?_, g.onew, ?_⟩
      · have := g.out
        rw [htk] at this
        exact this.keep (Chg.one wr p 0 _) hpo
      · have := g.kept
        rw [htk] at this
        exact rend (by rw [HX.out.2.2.2.1]; simp) (Chg.refl _ w) hp1 g.below this g.knew hpl
/-- On a sorted list both Dues tell the same. -/
theorem due_same {l : List Wt} (h : Sorted l) (now : Nat) : dueOut l now = dueF l now ∧ dueRest l now = dueN l now := by
  induction l with
  | nil => exact ⟨rfl, rfl⟩
  | cons x l ih =>
    obtain ⟨h1, h2⟩ := List.pairwise_cons.1 h
    obtain ⟨i1, i2⟩ := ih h2
    unfold dueOut dueRest dueF dueN at *
    by_cases hx : x.at_ ≤ now
    · simp [hx, i1, i2]
    · have hall : ∀ y ∈ l, ¬ y.at_ ≤ now := fun y hy => by have := h1 y hy; unfold Wt.lt at this; omega
      have e1 : l.filter (fun e => decide (e.at_ ≤ now)) = [] := List.filter_eq_nil_iff.2 (fun y hy => by simpa using hall y hy)
      have e2 : l.filter (fun e => !decide (e.at_ ≤ now)) = l := List.filter_eq_self.2 (fun y hy => by simpa using hall y hy)
      rw [List.takeWhile_cons, List.dropWhile_cons, List.filter_cons, List.filter_cons, e1, e2]
      simp [hx]
end Go.Proofs.Ytmkjcjdomechfaa
