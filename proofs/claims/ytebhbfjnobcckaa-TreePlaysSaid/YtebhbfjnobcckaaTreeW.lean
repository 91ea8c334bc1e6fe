/-
  LAYER 6: the sorted list and the document's, in plain words: the same nodes.
-/
import Derived.Test.YtebhbfjnobcckaaTreeV
namespace Go.Proofs.Ytebhbfjnobcckaa
open Go Go.RowKit

def Uniq (l : List Pl) : Prop := l.Pairwise (fun x y => cmpB x.key y.key ≠ 0)
theorem Sorted.uniq {l : List Pl} (h : Sorted l) : Uniq l := h.imp (fun h e => by omega)
theorem cmpB_symm {a b : ByteArray} (h : cmpB a b ≠ 0) : cmpB b a ≠ 0 := fun e => h (by have : cmpB b a = - cmpB a b := cb_flip; omega)
theorem Uniq.perm {l m : List Pl} (h : Uniq l) (hp : l.Perm m) : Uniq m := (hp.pairwise_iff (fun {_ _} h => cmpB_symm h)).1 h
theorem look_iff {l : List Pl} (h : Uniq l) {key : ByteArray} {x : Pl} : lookP l key = some x ↔ x ∈ l ∧ x.key = key := by
  induction l with
  | nil => simp [lookP]
  | cons y l ih =>
    obtain ⟨h1, h2⟩ := List.pairwise_cons.1 h
    rw [lookP]
    by_cases h0 : cmpB y.key key = 0
    · rw [if_pos h0]
      have hk := cmpB_zero.1 h0
      constructor
      · intro e; cases e; exact ⟨by simp, hk⟩
      · rintro ⟨hx, hxk⟩
        rcases List.mem_cons.1 hx with rfl | hx
        · rfl
        · exact absurd (cmpB_zero.2 (by rw [hk, hxk])) (h1 x hx)
    · rw [if_neg h0, ih h2]
      constructor
      · rintro ⟨hx, hxk⟩; exact ⟨by simp [hx], hxk⟩
      · rintro ⟨hx, hxk⟩
        rcases List.mem_cons.1 hx with rfl | hx
        · exact absurd (cmpB_zero.2 hxk) h0
        · exact ⟨hx, hxk⟩
theorem look_perm {l m : List Pl} (h : Uniq l) (hp : l.Perm m) (key : ByteArray) : lookP l key = lookP m key := by
  cases hl : lookP l key with
  | some x =>
    obtain ⟨h1, h2⟩ := (look_iff h).1 hl
    exact ((look_iff (h.perm hp)).2 ⟨hp.mem_iff.1 h1, h2⟩).symm
  | none =>
    cases hm : lookP m key with
    | none => rfl
    | some x =>
      obtain ⟨h1, h2⟩ := (look_iff (h.perm hp)).1 hm
      rw [(look_iff h).2 ⟨hp.mem_iff.2 h1, h2⟩] at hl
      cases hl
theorem setP_map {l : List Pl} (h : Uniq l) (t : Pl) : setP l t = l.map (fun x => if cmpB x.key t.key = 0 then t else x) := by
  induction l with
  | nil => rfl
  | cons y l ih =>
    obtain ⟨h1, h2⟩ := List.pairwise_cons.1 h
    rw [setP, List.map_cons]
    by_cases h0 : cmpB y.key t.key = 0
    · rw [if_pos h0, if_pos h0]
      congr 1
      symm
      refine (List.map_congr_left (fun x hx => ?_)).trans (List.map_id l)
      rw [if_neg (fun h3 => h1 x hx (cmpB_zero.2 (by rw [cmpB_zero.1 h0, cmpB_zero.1 h3])))]
      rfl
    · rw [if_neg h0, if_neg h0, ih h2]
theorem delK_filter {l : List Pl} (h : Uniq l) (key : ByteArray) : delK l key = l.filter (fun x => !decide (cmpB x.key key = 0)) := by
  induction l with
  | nil => rfl
  | cons y l ih =>
    obtain ⟨h1, h2⟩ := List.pairwise_cons.1 h
    rw [delK, List.filter_cons]
    by_cases h0 : cmpB y.key key = 0
    · rw [if_pos h0, if_neg (by simp [h0])]
      symm
      exact List.filter_eq_self.2 (fun x hx => by
        have : cmpB x.key key ≠ 0 := fun h3 => h1 x hx (cmpB_zero.2 (by rw [cmpB_zero.1 h0, cmpB_zero.1 h3]))
        simp [this])
    · rw [if_neg h0, if_pos (by simp [h0]), ih h2]
theorem insP_perm (l : List Pl) (t : Pl) : (insP l t).Perm (t :: l) := by
  induction l with
  | nil => exact List.Perm.refl _
  | cons x l ih =>
    unfold insP
    split
    · exact (ih.cons x).trans (List.Perm.swap _ _ _)
    · exact List.Perm.refl _
theorem sorted_eq {l m : List Pl} (hl : Sorted l) (hm : Sorted m) (hp : l.Perm m) : l = m :=
  hp.eq_of_pairwise (fun a b _ _ h1 h2 => by have : cmpB b.key a.key = - cmpB a.key b.key := cb_flip; omega) hl hm
/-- How the document's list stands to the sorted one. -/
def Like (ps rs : List Pl) : Prop := ps.Perm rs
theorem like_put {ps rs : List Pl} (h : Like ps rs) (hs : Sorted ps) (key : ByteArray) (body : List UInt8) (want own : Nat) : Like (putP ps key body want own).1 (putR rs key body want own).1 ∧ (putR rs key body want own).2 = (putP ps key body want own).2 := by
  have hu := hs.uniq
  have hlook := look_perm hu h key
  have hlen : rs.length = ps.length := h.length_eq.symm
  unfold putP putR
  rw [← hlook, hlen]
  by_cases k0 : key.size = 0 ∨ 64 < key.size
  · rw [if_pos k0, if_pos k0]; exact ⟨h, rfl⟩
  rw [if_neg k0, if_neg k0]
  by_cases k1 : 3840 < body.length
  · rw [if_pos k1, if_pos k1]; exact ⟨h, rfl⟩
  rw [if_neg k1, if_neg k1]
  cases hl : lookP ps key with
  | none =>
    dsimp only
    by_cases k2 : want ≠ 0
    · rw [if_pos k2, if_pos k2]; exact ⟨h, rfl⟩
    rw [if_neg k2, if_neg k2]
    by_cases k3 : 256 ≤ ps.length
    · rw [if_pos k3, if_pos k3]; exact ⟨h, rfl⟩
    rw [if_neg k3, if_neg k3]
    exact ⟨((insP_perm ps _).trans (h.cons _)).trans (List.perm_append_singleton _ _).symm, rfl⟩
  | some x =>
    dsimp only
    by_cases k2 : want = 0
    · rw [if_pos k2, if_pos k2]; exact ⟨h, rfl⟩
    rw [if_neg k2, if_neg k2]
    by_cases k3 : x.ver ≠ want
    · rw [if_pos k3, if_pos k3]; exact ⟨h, rfl⟩
    rw [if_neg k3, if_neg k3]
    refine ⟨?_, rfl⟩
    dsimp only
    unfold Like
    rw [setP_map hu, setP_map (hu.perm h)]
    exact h.map _
theorem like_del {ps rs : List Pl} (h : Like ps rs) (hs : Sorted ps) (key : ByteArray) (want : Nat) : Like (delP ps key want).1 (delP rs key want).1 ∧ (delP rs key want).2 = (delP ps key want).2 := by
  have hu := hs.uniq
  have hlook := look_perm hu h key
  unfold delP
  rw [← hlook]
  cases hl : lookP ps key with
  | none => exact ⟨h, rfl⟩
  | some x =>
    dsimp only
    by_cases k3 : x.ver ≠ want
    · rw [if_pos k3, if_pos k3]; exact ⟨h, rfl⟩
    rw [if_neg k3, if_neg k3]
    refine ⟨?_, rfl⟩
    dsimp only
    unfold Like
    rw [delK_filter hu, delK_filter (hu.perm h)]
    exact h.filter _
theorem like_drop {ps rs : List Pl} (h : Like ps rs) (own : Nat) : Like (dropP ps own) (dropP rs own) := by
  unfold dropP
  split
  · exact h
  · exact h.filter _
def sortP (l : List Pl) : List Pl := l.foldl insP []
theorem fold_perm (l acc : List Pl) : (l.foldl insP acc).Perm (l ++ acc) := by
  induction l generalizing acc with
  | nil => exact List.Perm.refl _
  | cons x l ih =>
    rw [List.foldl_cons]
    refine (ih _).trans ?_
    exact ((insP_perm acc x).append_left l).trans List.perm_middle
theorem fold_sorted {l acc : List Pl} (hl : Uniq (l ++ acc)) (ha : Sorted acc) : Sorted (l.foldl insP acc) := by
  induction l generalizing acc with
  | nil => exact ha
  | cons x l ih =>
    rw [List.foldl_cons]
    obtain ⟨h1, h2⟩ := List.pairwise_cons.1 hl
    refine ih (acc := insP acc x) ?_ (insP_sorted ha (fun y hy => cmpB_symm (h1 y (by simp [hy]))))
    exact hl.perm (((insP_perm acc x).append_left l).trans List.perm_middle).symm
theorem sort_like {ps rs : List Pl} (h : Like ps rs) (hs : Sorted ps) (pre : ByteArray) : sortP (listP rs pre) = listP ps pre := by
  have hp : (listP ps pre).Perm (listP rs pre) := h.filter _
  have hs' : Sorted (listP ps pre) := List.Pairwise.sublist List.filter_sublist hs
  refine sorted_eq (fold_sorted ?_ (by simp [Sorted])) hs' ?_
  · rw [List.append_nil]; exact hs'.uniq.perm hp
  · have := fold_perm (listP rs pre) []
    rw [List.append_nil] at this
    exact this.trans hp.symm
theorem sort_next {rs : List Pl} {f : Pl → Bool} {k : Nat} {x : Pl} (hx : rs[k]? = some x) : sortP ((rs.take (k + 1)).filter f) = if f x then insP (sortP ((rs.take k).filter f)) x else sortP ((rs.take k).filter f) := by
  unfold sortP
  rw [List.take_add_one, hx, List.filter_append, List.foldl_append]
  cases h : f x <;> simp [h]
theorem insP_first : ∀ {l : List Pl} {t : Pl} {i : Nat}, i ≤ l.length → LoP t.key l i → (i = l.length ∨ ∃ x, l[i]? = some x ∧ ¬ cmpB x.key t.key < 0) → insP l t = l.take i ++ [t] ++ l.drop i
  | [], t, i, hi, _, _ => by simp at hi; subst hi; rfl
  | x :: l, t, 0, _, _, hhi => by
    rcases hhi with hhi | ⟨y, hy, h0⟩
    · simp at hhi
    · simp at hy; subst hy
      rw [insP, if_neg h0]; rfl
  | x :: l, t, i + 1, hi, hlo, hhi => by
    have := hlo 0 x (by omega) rfl
    rw [insP, if_pos this, insP_first (i := i) (by simpa using hi) (fun k y hk hy => hlo (k + 1) y (by omega) (by simpa using hy)) (by
      rcases hhi with hhi | ⟨y, hy, h0⟩
      · left; simpa using hhi
      · right; exact ⟨y, by simpa using hy, h0⟩)]
    rfl
theorem less_iff : ∀ {a b : List UInt8}, Op.bytesLess a b = decide (Lib.compareBytes a b < 0)
  | [], [] => by simp [Op.bytesLess, Lib.compareBytes]
  | [], _ :: _ => by simp [Op.bytesLess, Lib.compareBytes]
  | _ :: _, [] => by simp [Op.bytesLess, Lib.compareBytes]
  | a :: ar, b :: br => by
    have ih := @less_iff ar br
    unfold Lib.compareBytes
    simp only [UInt8.lt_iff_toNat_lt]
    by_cases h1 : a.toNat < b.toNat
    · simp [Op.bytesLess, UInt8.lt_iff_toNat_lt, h1]
    · rw [if_neg h1]
      by_cases h2 : b.toNat < a.toNat
      · have hne : a ≠ b := fun e => by subst e; omega
        rw [if_pos h2]
        simp [Op.bytesLess, UInt8.lt_iff_toNat_lt, h1, hne]
      · rw [if_neg h2]
        have : a = b := UInt8.toNat_inj.1 (by omega)
        subst this
        simp [Op.bytesLess, ih]
theorem less_keys (a b : ByteArray) : Op.bytesLess a.toList b.toList = decide (cmpB a b < 0) := by
  rw [ba_toList, ba_toList]; exact less_iff
end Go.Proofs.Ytebhbfjnobcckaa
