/-
  LAYER 8: the document's List inside its State (printed by m7rt.py).
-/
import Derived.Test.YtackmgmaippajaaGreatRtV
import Derived.Deep.RegionHeld3
namespace Go.Proofs.YtackmgmaippajaaGreat.Tr
open Go Go.RowKit

def Uniq (l : List Pl) : Prop := l.Pairwise (fun x y => cmpB x.key y.key ≠ 0)
theorem Sorted.uniq {l : List Pl} (h : Sorted l) : Uniq l := h.imp (fun h e => by omega)
theorem cmpB_symm {a b : ByteArray} (h : cmpB a b ≠ 0) : cmpB b a ≠ 0 := fun e => h (by have : cmpB b a = - cmpB a b := cb_flip; omega)
theorem Uniq.perm {l m : List Pl} (h : Uniq l) (hp : l.Perm m) : Uniq m := (hp.pairwise_iff (fun {_ _} h => cmpB_symm h)).1 h
theorem look_iff {l : List Pl} (h : Uniq l) {key : ByteArray} {x : Pl} : lookP l key = some x ↔ x ∈ l ∧ x.key = key := by
  induction l with
  | nil => simp [lookP]
  | cons y l ih =>
    obtain ⟨h1, h2⟩ := List.pairwise_cons.1 h
    rw [lookP]
    by_cases h0 : cmpB y.key key = 0
    · rw [if_pos h0]
      have hk := cmpB_zero.1 h0
      constructor
      · intro e; cases e; exact ⟨by simp, hk⟩
      · rintro ⟨hx, hxk⟩
        rcases List.mem_cons.1 hx with rfl | hx
        · rfl
        · exact absurd (cmpB_zero.2 (by rw [hk, hxk])) (h1 x hx)
    · rw [if_neg h0, ih h2]
      constructor
      · rintro ⟨hx, hxk⟩; exact ⟨by simp [hx], hxk⟩
      · rintro ⟨hx, hxk⟩
        rcases List.mem_cons.1 hx with rfl | hx
        · exact absurd (cmpB_zero.2 hxk) h0
        · exact ⟨hx, hxk⟩
theorem look_perm {l m : List Pl} (h : Uniq l) (hp : l.Perm m) (key : ByteArray) : lookP l key = lookP m key := by
  cases hl : lookP l key with
  | some x =>
    obtain ⟨h1, h2⟩ := (look_iff h).1 hl
    exact ((look_iff (h.perm hp)).2 ⟨hp.mem_iff.1 h1, h2⟩).symm
  | none =>
    cases hm : lookP m key with
    | none => rfl
    | some x =>
      obtain ⟨h1, h2⟩ := (look_iff (h.perm hp)).1 hm
      rw [(look_iff h).2 ⟨hp.mem_iff.2 h1, h2⟩] at hl
      cases hl
theorem setP_map {l : List Pl} (h : Uniq l) (t : Pl) : setP l t = l.map (fun x => if cmpB x.key t.key = 0 then t else x) := by
  induction l with
  | nil => rfl
  | cons y l ih =>
    obtain ⟨h1, h2⟩ := List.pairwise_cons.1 h
    rw [setP, List.map_cons]
    by_cases h0 : cmpB y.key t.key = 0
    · rw [if_pos h0, if_pos h0]
      congr 1
      symm
      refine (List.map_congr_left (fun x hx => ?_)).trans (List.map_id l)
      rw [if_neg (fun h3 => h1 x hx (cmpB_zero.2 (by rw [cmpB_zero.1 h0, cmpB_zero.1 h3])))]
      rfl
    · rw [if_neg h0, if_neg h0, ih h2]
theorem delK_filter {l : List Pl} (h : Uniq l) (key : ByteArray) : delK l key = l.filter (fun x => !decide (cmpB x.key key = 0)) := by
  induction l with
  | nil => rfl
  | cons y l ih =>
    obtain ⟨h1, h2⟩ := List.pairwise_cons.1 h
    rw [delK, List.filter_cons]
    by_cases h0 : cmpB y.key key = 0
    · rw [if_pos h0, if_neg (by simp [h0])]
      symm
      exact List.filter_eq_self.2 (fun x hx => by
        have : cmpB x.key key ≠ 0 := fun h3 => h1 x hx (cmpB_zero.2 (by rw [cmpB_zero.1 h0, cmpB_zero.1 h3]))
        simp [this])
    · rw [if_neg h0, if_pos (by simp [h0]), ih h2]
theorem insP_perm (l : List Pl) (t : Pl) : (insP l t).Perm (t :: l) := by
  induction l with
  | nil => exact List.Perm.refl _
  | cons x l ih =>
    unfold insP
    split
    · exact (ih.cons x).trans (List.Perm.swap _ _ _)
    · exact List.Perm.refl _
theorem sorted_eq {l m : List Pl} (hl : Sorted l) (hm : Sorted m) (hp : l.Perm m) : l = m :=
  hp.eq_of_pairwise (fun a b _ _ h1 h2 => by have : cmpB b.key a.key = - cmpB a.key b.key := cb_flip; omega) hl hm
/-- How the document's list stands to the sorted one. -/
def Like (ps rs : List Pl) : Prop := ps.Perm rs
theorem like_put {ps rs : List Pl} (h : Like ps rs) (hs : Sorted ps) (key : ByteArray) (body : List UInt8) (want own : Nat) : Like (putP ps key body want own).1 (putR rs key body want own).1 ∧ (putR rs key body want own).2 = (putP ps key body want own).2 := by
  have hu := hs.uniq
  have hlook := look_perm hu h key
  have hlen : rs.length = ps.length := h.length_eq.symm
  unfold putP putR
  rw [← hlook, hlen]
  by_cases k0 : key.size = 0 ∨ 64 < key.size
  · rw [if_pos k0, if_pos k0]; exact ⟨h, rfl⟩
  rw [if_neg k0, if_neg k0]
  by_cases k1 : 3840 < body.length
  · rw [if_pos k1, if_pos k1]; exact ⟨h, rfl⟩
  rw [if_neg k1, if_neg k1]
  cases hl : lookP ps key with
  | none =>
    dsimp only
    by_cases k2 : want ≠ 0
    · rw [if_pos k2, if_pos k2]; exact ⟨h, rfl⟩
    rw [if_neg k2, if_neg k2]
    by_cases k3 : 256 ≤ ps.length
    · rw [if_pos k3, if_pos k3]; exact ⟨h, rfl⟩
    rw [if_neg k3, if_neg k3]
    exact ⟨((insP_perm ps _).trans (h.cons _)).trans (List.perm_append_singleton _ _).symm, rfl⟩
  | some x =>
    dsimp only
    by_cases k2 : want = 0
    · rw [if_pos k2, if_pos k2]; exact ⟨h, rfl⟩
    rw [if_neg k2, if_neg k2]
    by_cases k3 : x.ver ≠ want
    · rw [if_pos k3, if_pos k3]; exact ⟨h, rfl⟩
    rw [if_neg k3, if_neg k3]
    refine ⟨?_, rfl⟩
    dsimp only
    unfold Like
    rw [setP_map hu, setP_map (hu.perm h)]
    exact h.map _
theorem like_del {ps rs : List Pl} (h : Like ps rs) (hs : Sorted ps) (key : ByteArray) (want : Nat) : Like (delP ps key want).1 (delP rs key want).1 ∧ (delP rs key want).2 = (delP ps key want).2 := by
  have hu := hs.uniq
  have hlook := look_perm hu h key
  unfold delP
  rw [← hlook]
  cases hl : lookP ps key with
  | none => exact ⟨h, rfl⟩
  | some x =>
    dsimp only
    by_cases k3 : x.ver ≠ want
    · rw [if_pos k3, if_pos k3]; exact ⟨h, rfl⟩
    rw [if_neg k3, if_neg k3]
    refine ⟨?_, rfl⟩
    dsimp only
    unfold Like
    rw [delK_filter hu, delK_filter (hu.perm h)]
    exact h.filter _
theorem like_drop {ps rs : List Pl} (h : Like ps rs) (own : Nat) : Like (dropP ps own) (dropP rs own) := by
  unfold dropP
  split
  · exact h
  · exact h.filter _
def sortP (l : List Pl) : List Pl := l.foldl insP []
theorem fold_perm (l acc : List Pl) : (l.foldl insP acc).Perm (l ++ acc) := by
  induction l generalizing acc with
  | nil => exact List.Perm.refl _
  | cons x l ih =>
    rw [List.foldl_cons]
    refine (ih _).trans ?_
    exact ((insP_perm acc x).append_left l).trans List.perm_middle
theorem fold_sorted {l acc : List Pl} (hl : Uniq (l ++ acc)) (ha : Sorted acc) : Sorted (l.foldl insP acc) := by
  induction l generalizing acc with
  | nil => exact ha
  | cons x l ih =>
    rw [List.foldl_cons]
    obtain ⟨h1, h2⟩ := List.pairwise_cons.1 hl
    refine ih (acc := insP acc x) ?_ (insP_sorted ha (fun y hy => cmpB_symm (h1 y (by simp [hy]))))
    exact hl.perm (((insP_perm acc x).append_left l).trans List.perm_middle).symm
theorem sort_like {ps rs : List Pl} (h : Like ps rs) (hs : Sorted ps) (pre : ByteArray) : sortP (listP rs pre) = listP ps pre := by
  have hp : (listP ps pre).Perm (listP rs pre) := h.filter _
  have hs' : Sorted (listP ps pre) := List.Pairwise.sublist List.filter_sublist hs
  refine sorted_eq (fold_sorted ?_ (by simp [Sorted])) hs' ?_
  · rw [List.append_nil]; exact hs'.uniq.perm hp
  · have := fold_perm (listP rs pre) []
    rw [List.append_nil] at this
    exact this.trans hp.symm
theorem sort_next {rs : List Pl} {f : Pl → Bool} {k : Nat} {x : Pl} (hx : rs[k]? = some x) : sortP ((rs.take (k + 1)).filter f) = if f x then insP (sortP ((rs.take k).filter f)) x else sortP ((rs.take k).filter f) := by
  unfold sortP
  rw [List.take_add_one, hx, List.filter_append, List.foldl_append]
  cases h : f x <;> simp [h]
theorem insP_first : ∀ {l : List Pl} {t : Pl} {i : Nat}, i ≤ l.length → LoP t.key l i → (i = l.length ∨ ∃ x, l[i]? = some x ∧ ¬ cmpB x.key t.key < 0) → insP l t = l.take i ++ [t] ++ l.drop i
  | [], t, i, hi, _, _ => by simp at hi; subst hi; rfl
  | x :: l, t, 0, _, _, hhi => by
    rcases hhi with hhi | ⟨y, hy, h0⟩
    · simp at hhi
    · simp at hy; subst hy
      rw [insP, if_neg h0]; rfl
  | x :: l, t, i + 1, hi, hlo, hhi => by
    have := hlo 0 x (by omega) rfl
    rw [insP, if_pos this, insP_first (i := i) (by simpa using hi) (fun k y hk hy => hlo (k + 1) y (by omega) (by simpa using hy)) (by
      rcases hhi with hhi | ⟨y, hy, h0⟩
      · left; simpa using hhi
      · right; exact ⟨y, by simpa using hy, h0⟩)]
    rfl

/-- Where the document's List stands behind k nodes. -/
structure RListRel (w wr : World) (l : List Nd) (rs : List Pl) (pre : ByteArray) (k : Nat) (oo : Option Addr) (on oc : Nat) (es : List Nd) : Prop where
  below : Below w.heap.size w wr
  own : Own wr 4 oo on oc (es.flatMap Nd.cells)
  new : ∀ a, oo = some a → w.heap.size ≤ a.block
  map : es.map Nd.pl = sortP (listP (rs.take k) pre)
  sub : ∀ e ∈ es, e ∈ l
theorem first_not (es : List Nd) (key : ByteArray) : (∀ (j : Nat) (x : Nd), es[j]? = some x → cmpB x.key key < 0) ∨ ∃ (i : Nat) (x : Nd), es[i]? = some x ∧ ¬ cmpB x.key key < 0 ∧ ∀ (j : Nat) (y : Nd), j < i → es[j]? = some y → cmpB y.key key < 0 := by
  induction es with
  | nil => exact .inl (fun j x h => by simp at h)
  | cons e es ih =>
    by_cases he : cmpB e.key key < 0
    · rcases ih with h | ⟨i, x, h1, h2, h3⟩
      · exact .inl (fun j x hx => by
          cases j with
          | zero => simp at hx; subst hx; exact he
          | succ j => exact h j x (by simpa using hx))
      · exact .inr ⟨i + 1, x, by simpa using h1, h2, fun j y hj hy => by
          cases j with
          | zero => simp at hy; subst hy; exact he
          | succ j => exact h3 j y (by omega) (by simpa using hy)⟩
    · exact .inr ⟨0, e, rfl, he, fun j y hj _ => by omega⟩
theorem first_place (es : List Nd) (key : ByteArray) : ∃ K, K ≤ es.length ∧ (∀ (j : Nat) (y : Nd), j < K → es[j]? = some y → cmpB y.key key < 0) ∧ (K = es.length ∨ ∃ x, es[K]? = some x ∧ ¬ cmpB x.key key < 0) := by
  rcases first_not es key with h | ⟨i, x, h1, h2, h3⟩
  · exact ⟨es.length, Nat.le_refl _, fun j y _ hy => h j y hy, .inl rfl⟩
  · exact ⟨i, Nat.le_of_lt (List.getElem?_eq_some_iff.1 h1).1, h3, .inr ⟨x, h1, h2⟩⟩
/-- One more is laid in its place. -/
theorem rlist_end {w wr w2 : World} {l : List Nd} {rs : List Pl} {pre : ByteArray} {k on oc K zc : Nat} {oo zo : Option Addr} {es : List Nd} {e : Nd} (h : RListRel w wr l rs pre k oo on oc es) (he : e ∈ l) (hk : rs[k]? = some e.pl) (hp : preB e.key pre = true)
    (hK : K ≤ es.length) (hlo : ∀ (j : Nat) (y : Nd), j < K → es[j]? = some y → cmpB y.key e.key < 0) (hhi : K = es.length ∨ ∃ x, es[K]? = some x ∧ ¬ cmpB x.key e.key < 0)
    (hb : Below w.heap.size w w2) (ho : Own w2 4 zo (on + 1) zc ((es.take K ++ [e] ++ es.drop K).flatMap Nd.cells)) (hz : ∀ a, zo = some a → w.heap.size ≤ a.block) : RListRel w w2 l rs pre (k + 1) zo (on + 1) zc (es.take K ++ [e] ++ es.drop K) := by
  refine ⟨hb, ho, hz, ?_, fun y hy => ?_⟩
  · unfold listP
    rw [sort_next hk, if_pos (show preB e.pl.key pre = true from hp)]
    have hm : es.map Nd.pl = sortP ((rs.take k).filter (fun x => preB x.key pre)) := h.map
    rw [← hm, insP_first (t := e.pl) (i := K) (by rw [List.length_map]; exact hK)]
    · simp [List.map_take, List.map_drop]
    · intro j x hj hx
      rw [List.getElem?_map] at hx
      cases hj' : es[j]? with
      | none => rw [hj'] at hx; cases hx
      | some y => rw [hj'] at hx; cases hx; exact hlo j y hj hj'
    · rcases hhi with hhi | ⟨x, hx, h0⟩
      · left; rw [List.length_map]; exact hhi
      · right; exact ⟨x.pl, by rw [List.getElem?_map, hx]; rfl, h0⟩
  · rcases List.mem_append.1 hy with hy | hy
    · rcases List.mem_append.1 hy with hy | hy
      · exact h.sub y (List.mem_of_mem_take hy)
      · rw [List.mem_singleton] at hy; subst hy; exact he
    · exact h.sub y (List.mem_of_mem_drop hy)
set_option maxHeartbeats 4000000 in
set_option maxRecDepth 100000 in
theorem rlist_at (q : Nat) (cs : Array Value) (t : TypeId) (pre : ByteArray) (rs : List Pl) (G : List Nat) (w : World) (h : RTreeAt w q cs t rs G) (hn : rs.length ≤ 256) :
    Calls Tryz.prog 38 #[.pointer (some ⟨q, 1, none⟩), .string pre] w fun r w' => ∃ xo xc es, r = .returned (.slice xo (sortP (listP rs pre)).length xc) ∧ Below w.heap.size w w' ∧ NodesAt w' xo es ∧ es.map Nd.pl = sortP (listP rs pre) ∧ (∀ a, xo = some a → w.heap.size ≤ a.block) ∧ ∀ e ∈ es, ∀ a, e.vo = some a → a.block ∈ G := by
  obtain ⟨lo, n, cap, l, h⟩ := h
  have hn256 : n ≤ 256 := by have := h.len.2; omega
  have HI := Lib.hid h
  clear h hn
  go_enter Tryz.func38, Tryz.ntmps38
  go_wp2
  go_loopg [5, 6] n (fun g v5 v6 wr => ∃ (k : Nat) (oo : Option Addr) (on oc : Nat) (es : List Nd), g + k = n ∧ v6 = .int .i64 k ∧ v5 = .slice oo on oc ∧ RListRel w wr l rs pre k oo on oc es)
  case atStart => exact ⟨0, none, 0, 0, [], by omega, rfl, rfl, Below.refl _ _, Own.nil' _ _, by simp, rfl, by simp⟩
  case round =>
    obtain ⟨k, oo, on, oc, es, hgk, rfl, rfl, hrel⟩ := hrel
    obtain ⟨K0, rfl⟩ : ∃ K0, K0 = gk := ⟨_, rfl⟩
    have HR := Lib.hid hrel
    have hI2 := HI.out.keep (Chg.of_below hrel.below (fun _ => False)) (fun _ _ h => h)
    obtain ⟨z0, z2⟩ := cellsK hI2.heap hI2.at1
    have hel := fl_own_len el_e hrel.own
    by_cases hk : k < n
    · obtain ⟨e, he⟩ : ∃ e, l[k]? = some e := ⟨_, List.getElem?_eq_getElem (by rw [HI.out.len.1]; exact hk)⟩
      obtain ⟨b, off, rfl, q0, q1, q2, q3⟩ := nd_at hI2.own.row he
      have hpe : rs[k]? = some e.pl := by rw [← HI.out.map, List.getElem?_map, he]; rfl
      have hon : on + k ≤ 512 ∧ on ≤ k := by
        have h1 : es.length = (sortP (listP (rs.take k) pre)).length := by rw [← hrel.map, List.length_map]
        have h2 : (sortP (listP (rs.take k) pre)).length = (listP (rs.take k) pre).length := by
          have := (fold_perm (listP (rs.take k) pre) []).length_eq
          rw [List.append_nil] at this; exact this
        have h3 : (listP (rs.take k) pre).length ≤ (rs.take k).length := List.length_filter_le ..
        have h4 : (rs.take k).length ≤ k := by rw [List.length_take]; omega
        omega
      have HE := Lib.hid (And.intro he hpe)
      have hkI : (k : Int) < (n : Int) := by omega
      have hk0 : (0 : Int) ≤ (k : Int) := by omega
      clear he hpe hrel hI2
      cases hpp : preB e.key pre with
      | false =>
        have hft := sort_next (f := fun x => preB x.key pre) HE.out.2
        have HMK := Lib.hid (show sortP (listP (rs.take (k + 1)) pre) = sortP (listP (rs.take k) pre) by unfold listP; rw [hft, if_neg (by simp [Nd.pl, hpp])])
        clear hft
        unfold preB at hpp
        by_cases hsz : pre.size ≤ e.key.size
        · have i1 : ¬ (e.key.size : Int) < (pre.size : Int) := by omega
          have i2 : (pre.size : Int) ≤ (e.key.size : Int) := by omega
          have i0 : (0 : Int) ≤ (pre.size : Int) := by omega
          rw [decide_eq_true hsz, Bool.true_and] at hpp
          as_aux_lemma =>
            go_wp2
            go_roundg (K0 - 1)
            case measure => omega
            case rel => exact ⟨k + 1, oo, on, oc, es, by omega, by go_num, rfl, HR.out.below, HR.out.own, HR.out.new, by rw [HMK.out]; exact HR.out.map, HR.out.sub⟩
        · have i1 : (e.key.size : Int) < (pre.size : Int) := by omega
          clear hpp
          as_aux_lemma =>
            go_wp2
            go_roundg (K0 - 1)
            case measure => omega
            case rel => exact ⟨k + 1, oo, on, oc, es, by omega, by go_num, rfl, HR.out.below, HR.out.own, HR.out.new, by rw [HMK.out]; exact HR.out.map, HR.out.sub⟩
      | true =>
        have HPP := Lib.hid hpp
        have hsz : pre.size ≤ e.key.size := by
          unfold preB at hpp
          by_cases h : pre.size ≤ e.key.size
          · exact h
          · rw [decide_eq_false h] at hpp; simp at hpp
        have hpe : ((e.key.extract 0 pre.size).toList == pre.toList) = true := by
          unfold preB at hpp
          rw [decide_eq_true hsz, Bool.true_and] at hpp
          exact hpp
        have i1 : ¬ (e.key.size : Int) < (pre.size : Int) := by omega
        have i2 : (pre.size : Int) ≤ (e.key.size : Int) := by omega
        have i0 : (0 : Int) ≤ (pre.size : Int) := by omega
        obtain ⟨K, hK, hlo, hhi⟩ := first_place es e.key
        rw [hel] at hK
        have HK := Lib.hid (And.intro hlo hhi)
        clear hpp hlo hhi
        go_upto_block 2 with fail
        go_cut [8] (fun v8 wx => v8 = .int .i64 K ∧ wx = wr)
        case first =>
          -- BEGIN1
          as_aux_lemma =>
            clear q0 q1 q2 q3
            go_wp2_with fail
            go_loopg [8] K (fun g v8 wx => ∃ j : Nat, g + j = K ∧ v8 = .int .i64 j ∧ wx = wr)
            case atStart => exact ⟨0, by omega, rfl, rfl⟩
            case round =>
              obtain ⟨j, hgj, rfl, rfl⟩ := hrel
              by_cases hj : j < K
              · obtain ⟨x, hx⟩ : ∃ x, es[j]? = some x := ⟨_, List.getElem?_eq_getElem (by omega)⟩
                obtain ⟨b2, off2, rfl, r0, r1, r2, r3⟩ := nd_at HR.out.own.row hx
                have hl := HK.out.1 j x hj hx
                have j1 : Op.bytesLess x.key.toList e.key.toList = true := by rw [less_keys]; exact decide_eq_true hl
                have jI : (j : Int) < (on : Int) := by omega
                have j0 : (0 : Int) ≤ (j : Int) := by omega
                clear hl hx
                go_wp2
                go_roundg (gk - 1)
                case measure => omega
                case rel => exact ⟨j + 1, by omega, by go_num, rfl⟩
              · obtain rfl : j = K := by omega
                rcases HK.out.2 with hKe | ⟨x, hx, h0⟩
                · have jI : ¬ (j : Int) < (on : Int) := by omega
                  clear hKe
                  go_wp2
                  go_meet
                  exact ⟨rfl, rfl⟩
                · have hjn := (List.getElem?_eq_some_iff.1 hx).1
                  obtain ⟨b2, off2, rfl, r0, r1, r2, r3⟩ := nd_at HR.out.own.row hx
                  have j1 : Op.bytesLess x.key.toList e.key.toList = false := by rw [less_keys]; exact decide_eq_false (by omega)
                  have jI : (j : Int) < (on : Int) := by omega
                  have j0 : (0 : Int) ≤ (j : Int) := by omega
                  clear h0 hx
                  go_wp2
                  go_meet
                  exact ⟨rfl, rfl⟩
          -- END1
        case rest =>
          obtain ⟨rfl, rfl⟩ := hcut
          have hqb : q ≠ b := fun e => HI.out.apart (mem_blk.2 ⟨_, rfl, e.symm⟩)
          have hbw : b < w.heap.size := HI.out.lt b (HI.out.bG b (mem_blk.2 ⟨_, rfl, rfl⟩))
          have hqw : q < w.heap.size := HI.out.lt q HI.out.qG
          have z0d : wc.drew.cell? ⟨q, 1, none⟩ = some (.slice (some ⟨b, off, none⟩) n cap) := z0
          have q0d : wc.drew.cell? ⟨b, off + k * 4, none⟩ = some (.string e.key) := q0
          have q1d : wc.drew.cell? ⟨b, off + k * 4 + 1, none⟩ = some (.slice e.vo e.body.length e.vc) := q1
          have q2d : wc.drew.cell? ⟨b, off + k * 4 + 2, none⟩ = some (.int .u64 (e.ver : Int)) := q2
          have q3d : wc.drew.cell? ⟨b, off + k * 4 + 3, none⟩ = some (.int .u64 (e.own : Int)) := q3
          go_upto_region 10 with fail
          cases oo with
          | none =>
            -- BEGIN3
            as_aux_lemma =>
              have hoc := HR.out.own.nil rfl
              have hle := HR.out.own.le
              have hon0 : on = 0 := by omega
              subst hoc
              subst hon0
              obtain rfl : K = 0 := by omega
              have hes : es = [] := List.eq_nil_of_length_eq_zero hel
              subst hes
              have hS0 : wc.drew.cell? ⟨q, 1, none⟩ = some (.slice (some ⟨b, off, none⟩) n cap) ∧ wc.drew.cell? ⟨b, off + k * 4, none⟩ = some (.string e.key) ∧ wc.drew.cell? ⟨b, off + k * 4 + 1, none⟩ = some (.slice e.vo e.body.length e.vc) ∧ wc.drew.cell? ⟨b, off + k * 4 + 2, none⟩ = some (.int .u64 (e.ver : Int)) ∧ wc.drew.cell? ⟨b, off + k * 4 + 3, none⟩ = some (.int .u64 (e.own : Int)) := ⟨z0, q0, q1, q2, q3⟩
              have hSa : (wc.alloc (.cells #[.string e.key, .slice e.vo e.body.length e.vc, .int .u64 (e.ver : Int), .int .u64 (e.own : Int)] 78)).drew.cell? ⟨q, 1, none⟩ = some (.slice (some ⟨b, off, none⟩) n cap) ∧ (wc.alloc (.cells #[.string e.key, .slice e.vo e.body.length e.vc, .int .u64 (e.ver : Int), .int .u64 (e.own : Int)] 78)).drew.cell? ⟨b, off + k * 4, none⟩ = some (.string e.key) ∧ (wc.alloc (.cells #[.string e.key, .slice e.vo e.body.length e.vc, .int .u64 (e.ver : Int), .int .u64 (e.own : Int)] 78)).drew.cell? ⟨b, off + k * 4 + 1, none⟩ = some (.slice e.vo e.body.length e.vc) ∧ (wc.alloc (.cells #[.string e.key, .slice e.vo e.body.length e.vc, .int .u64 (e.ver : Int), .int .u64 (e.own : Int)] 78)).drew.cell? ⟨b, off + k * 4 + 2, none⟩ = some (.int .u64 (e.ver : Int)) ∧ (wc.alloc (.cells #[.string e.key, .slice e.vo e.body.length e.vc, .int .u64 (e.ver : Int), .int .u64 (e.own : Int)] 78)).drew.cell? ⟨b, off + k * 4 + 3, none⟩ = some (.int .u64 (e.own : Int)) := ⟨alloc_cell z0, alloc_cell q0, alloc_cell q1, alloc_cell q2, alloc_cell q3⟩
              have HS := Lib.hid hS0
              have hA2 := fun (W : World) (o : Obj) => (Below.refl W.heap.size W).alloc (Nat.le_refl _) o
              clear z0 q0 q1 q2 q3 z0d q0d q1d q2d q3d
              go_region_held3 (fun wx => wx.cell? ⟨q, 1, none⟩ = some (.slice (some ⟨b, off, none⟩) n cap) ∧ wx.cell? ⟨b, off + k * 4, none⟩ = some (.string e.key) ∧ wx.cell? ⟨b, off + k * 4 + 1, none⟩ = some (.slice e.vo e.body.length e.vc) ∧ wx.cell? ⟨b, off + k * 4 + 2, none⟩ = some (.int .u64 (e.ver : Int)) ∧ wx.cell? ⟨b, off + k * 4 + 3, none⟩ = some (.int .u64 (e.own : Int)))
                (first | exact hS0 | exact hSa | exact hS1 | exact hS2)
                (first
                  | (refine step_append' rfl (.tmp 65) (.tmp 68) el_i rfl (c := 0) (m := 0) (news := []) ?hs ?hx (Own.alloc wc 4 1 1 #[.string e.key, .slice e.vo e.body.length e.vc, .int .u64 (e.ver : Int), .int .u64 (e.own : Int)] 78 e.cells rfl (Nat.le_refl _) (by decide) (Nat.le_refl _) rfl).drew rfl (Own.nil' _ 4).row (by simp) (by decide) (by decide) ?_; (case hs => simp [Act.eval, Act.put]); (case hx => simp [Act.eval, Act.put]); intro zo zc w2 hx hch _ hx2; have hb2 := chg_new (Below.refl _ _) hch.undrew; have hc2 := Chg.of_below hb2 (fun _ => False); have hS1 : w2.cell? ⟨q, 1, none⟩ = some (.slice (some ⟨b, off, none⟩) n cap) ∧ w2.cell? ⟨b, off + k * 4, none⟩ = some (.string e.key) ∧ w2.cell? ⟨b, off + k * 4 + 1, none⟩ = some (.slice e.vo e.body.length e.vc) ∧ w2.cell? ⟨b, off + k * 4 + 2, none⟩ = some (.int .u64 (e.ver : Int)) ∧ w2.cell? ⟨b, off + k * 4 + 3, none⟩ = some (.int .u64 (e.own : Int)) := ⟨hc2.cell (w := wc) HS.out.1 (fun h => h), hc2.cell (w := wc) HS.out.2.1 (fun h => h), hc2.cell (w := wc) HS.out.2.2.1 (fun h => h), hc2.cell (w := wc) HS.out.2.2.2.1 (fun h => h), hc2.cell (w := wc) HS.out.2.2.2.2 (fun h => h)⟩; have H2 := Lib.hid (And.intro hx (And.intro hb2 (And.intro (new_blk (Below.refl _ wc) hx2) hS1))); clear hx hch hx2 hb2 hc2)
                  | (refine step_append' rfl (.tmp 57) (.tmp 69) el_i rfl (c := zc) ?hs ?hx (Own.nil' _ 4) (show (e.cells ++ []).length = (1 + 0) * 4 from rfl) H2.out.1.row (by intro u hu; rw [List.append_nil] at hu; exact el_e.one e u hu) (by decide) (by decide) ?_; (case hs => simp [Act.eval, Act.put]); (case hx => simp [Act.eval, Act.put]); intro yo yc w3 hx hch _ hx2; have hb3 := hch.below (B := w2.heap.size) (Nat.le_refl _) (fun k ⟨a, ha, e⟩ => nomatch ha); have hc3 := Chg.of_below hb3 (fun _ => False); have hS2 : w3.cell? ⟨q, 1, none⟩ = some (.slice (some ⟨b, off, none⟩) n cap) ∧ w3.cell? ⟨b, off + k * 4, none⟩ = some (.string e.key) ∧ w3.cell? ⟨b, off + k * 4 + 1, none⟩ = some (.slice e.vo e.body.length e.vc) ∧ w3.cell? ⟨b, off + k * 4 + 2, none⟩ = some (.int .u64 (e.ver : Int)) ∧ w3.cell? ⟨b, off + k * 4 + 3, none⟩ = some (.int .u64 (e.own : Int)) := ⟨hc3.cell H2.out.2.2.2.1 (fun h => h), hc3.cell H2.out.2.2.2.2.1 (fun h => h), hc3.cell H2.out.2.2.2.2.2.1 (fun h => h), hc3.cell H2.out.2.2.2.2.2.2.1 (fun h => h), hc3.cell H2.out.2.2.2.2.2.2.2 (fun h => h)⟩; have H3 := Lib.hid (And.intro hx (And.intro hb3 hx2)); clear hx hch hx2 hb3 hc3))
              all_goals go_wp2
              all_goals (
                go_roundg (K0 - 1)
                case measure => omega
                case rel =>
                  have hb2 := HR.out.below.trans (H2.out.2.1.mono HR.out.below.size)
                  have hb3 := hb2.trans (H3.out.2.1.mono hb2.size)
                  refine ⟨k + 1, yo, 0 + 1, yc, _, by omega, by go_num, rfl, rlist_end (K := 0) HR.out (List.mem_of_getElem? HE.out.1) HE.out.2 HPP.out (Nat.le_refl _) (fun j y hj _ => by omega) (.inl rfl) hb3 ?_ (fun a ha => ?_)⟩
                  · have := H3.out.1
                    simpa using this
                  · rcases H3.out.2.2 a ha with h1 | h1
                    · cases h1
                    · exact Nat.le_trans hb2.size h1)
            -- END3
          | some oa =>
            -- BEGIN2
            as_aux_lemma =>
              obtain ⟨xb, xoff, xs⟩ := oa
              obtain ⟨rfl, _⟩ := HR.out.own.at_ _ rfl
              have hcap := HR.out.own.le
              have hmax := HR.out.own.max
              have hxw : w.heap.size ≤ xb := HR.out.new _ rfl
              obtain ⟨A, hA⟩ : ∃ A : Option Addr, (if oc = K then some (⟨xb, xoff, none⟩ : Addr) else some ⟨xb, xoff + K * 4, none⟩) = A := ⟨_, rfl⟩
              have HRR := Lib.hid (show Row wc A ((es.drop K).flatMap Nd.cells) by rw [← hA]; exact fl_row el_e HR.out.own hel K)
              have HCU := Lib.hid (show Own wc 4 (some ⟨xb, xoff, none⟩) K K ((es.take K).flatMap Nd.cells) by rw [← fl_take el_e]; exact HR.out.own.cut (Nat.le_refl _) hK (by omega))
              have HLN := Lib.hid (And.intro (show ((es.drop K).flatMap Nd.cells).length = (on - K) * 4 by rw [fl_len el_e, List.length_drop, hel]) (show (e.cells ++ (es.drop K).flatMap Nd.cells).length = (1 + (on - K)) * 4 by rw [List.length_append, fl_len el_e, List.length_drop, hel, el_e.len]; omega))
              have HEQ := Lib.hid (show (es.take K).flatMap Nd.cells ++ (e.cells ++ (es.drop K).flatMap Nd.cells) = (es.take K ++ [e] ++ es.drop K).flatMap Nd.cells by simp)
              have HN1 := Lib.hid (show K + (1 + (on - K)) = on + 1 by omega)
              have HZ := Lib.hid (show 1 + (on - K) ≤ maxLen ∧ (1 + (on - K)) * 56 ≤ 140737488355328 ∧ K + (1 + (on - K)) ≤ maxLen ∧ (K + (1 + (on - K))) * 56 ≤ 140737488355328 from ⟨by unfold maxLen; omega, by omega, by unfold maxLen; omega, by omega⟩)
              have hic : K ≤ oc := by omega
              have hic' : (K : Int) ≤ (oc : Int) := by omega
              have hic2 : (K : Int) ≤ (on : Int) := by omega
              have hp0 : (0 : Int) ≤ (K : Int) := by omega
              have hp3 : (on : Int) ≤ (oc : Int) := by omega
              have hS0 : wc.drew.cell? ⟨q, 1, none⟩ = some (.slice (some ⟨b, off, none⟩) n cap) ∧ wc.drew.cell? ⟨b, off + k * 4, none⟩ = some (.string e.key) ∧ wc.drew.cell? ⟨b, off + k * 4 + 1, none⟩ = some (.slice e.vo e.body.length e.vc) ∧ wc.drew.cell? ⟨b, off + k * 4 + 2, none⟩ = some (.int .u64 (e.ver : Int)) ∧ wc.drew.cell? ⟨b, off + k * 4 + 3, none⟩ = some (.int .u64 (e.own : Int)) := ⟨z0, q0, q1, q2, q3⟩
              have hSa : (wc.alloc (.cells #[.string e.key, .slice e.vo e.body.length e.vc, .int .u64 (e.ver : Int), .int .u64 (e.own : Int)] 78)).drew.cell? ⟨q, 1, none⟩ = some (.slice (some ⟨b, off, none⟩) n cap) ∧ (wc.alloc (.cells #[.string e.key, .slice e.vo e.body.length e.vc, .int .u64 (e.ver : Int), .int .u64 (e.own : Int)] 78)).drew.cell? ⟨b, off + k * 4, none⟩ = some (.string e.key) ∧ (wc.alloc (.cells #[.string e.key, .slice e.vo e.body.length e.vc, .int .u64 (e.ver : Int), .int .u64 (e.own : Int)] 78)).drew.cell? ⟨b, off + k * 4 + 1, none⟩ = some (.slice e.vo e.body.length e.vc) ∧ (wc.alloc (.cells #[.string e.key, .slice e.vo e.body.length e.vc, .int .u64 (e.ver : Int), .int .u64 (e.own : Int)] 78)).drew.cell? ⟨b, off + k * 4 + 2, none⟩ = some (.int .u64 (e.ver : Int)) ∧ (wc.alloc (.cells #[.string e.key, .slice e.vo e.body.length e.vc, .int .u64 (e.ver : Int), .int .u64 (e.own : Int)] 78)).drew.cell? ⟨b, off + k * 4 + 3, none⟩ = some (.int .u64 (e.own : Int)) := ⟨alloc_cell z0, alloc_cell q0, alloc_cell q1, alloc_cell q2, alloc_cell q3⟩
              have HS := Lib.hid hS0
              have HNX := Lib.hid (show (¬ ∃ a, some (⟨xb, xoff, none⟩ : Addr) = some a ∧ a.block = q) ∧ ¬ ∃ a, some (⟨xb, xoff, none⟩ : Addr) = some a ∧ a.block = b from ⟨fun ⟨a, ha, e⟩ => by cases ha; simp only at e; omega, fun ⟨a, ha, e⟩ => by cases ha; simp only at e; omega⟩)
              have hA2 := fun (W : World) (o : Obj) => (Below.refl W.heap.size W).alloc (Nat.le_refl _) o
              clear z0 q0 q1 q2 q3 z0d q0d q1d q2d q3d
              go_region_held3 (fun wx => wx.cell? ⟨q, 1, none⟩ = some (.slice (some ⟨b, off, none⟩) n cap) ∧ wx.cell? ⟨b, off + k * 4, none⟩ = some (.string e.key) ∧ wx.cell? ⟨b, off + k * 4 + 1, none⟩ = some (.slice e.vo e.body.length e.vc) ∧ wx.cell? ⟨b, off + k * 4 + 2, none⟩ = some (.int .u64 (e.ver : Int)) ∧ wx.cell? ⟨b, off + k * 4 + 3, none⟩ = some (.int .u64 (e.own : Int)))
                (first | exact hS0 | exact hSa | exact hS1 | exact hS2)
                (first
                  | (refine step_append' rfl (.tmp 65) (.tmp 68) el_i rfl (c := oc - K) ?hs ?hx (Own.alloc wc 4 1 1 #[.string e.key, .slice e.vo e.body.length e.vc, .int .u64 (e.ver : Int), .int .u64 (e.own : Int)] 78 e.cells rfl (Nat.le_refl _) (by decide) (Nat.le_refl _) rfl).drew HLN.out.1 (HRR.out.below (hA2 _ _)).drew (fl_one el_e _) HZ.out.1 HZ.out.2.1 ?_; (case hs => simp [Act.eval, Act.put]); (case hx => simp [Act.eval, Act.put]); intro zo zc w2 hx hch _ hx2; have hb2 := chg_new (Below.refl _ _) hch.undrew; have hc2 := Chg.of_below hb2 (fun _ => False); have hS1 : w2.cell? ⟨q, 1, none⟩ = some (.slice (some ⟨b, off, none⟩) n cap) ∧ w2.cell? ⟨b, off + k * 4, none⟩ = some (.string e.key) ∧ w2.cell? ⟨b, off + k * 4 + 1, none⟩ = some (.slice e.vo e.body.length e.vc) ∧ w2.cell? ⟨b, off + k * 4 + 2, none⟩ = some (.int .u64 (e.ver : Int)) ∧ w2.cell? ⟨b, off + k * 4 + 3, none⟩ = some (.int .u64 (e.own : Int)) := ⟨hc2.cell (w := wc) HS.out.1 (fun h => h), hc2.cell (w := wc) HS.out.2.1 (fun h => h), hc2.cell (w := wc) HS.out.2.2.1 (fun h => h), hc2.cell (w := wc) HS.out.2.2.2.1 (fun h => h), hc2.cell (w := wc) HS.out.2.2.2.2 (fun h => h)⟩; have H2 := Lib.hid (And.intro hx (And.intro hb2 (And.intro (new_blk (Below.refl _ wc) hx2) hS1))); clear hx hch hx2 hb2 hc2)
                  | (refine step_append' rfl (.tmp 57) (.tmp 69) el_i rfl (c := zc) ?hs ?hx (HCU.out.keep (Chg.of_below H2.out.2.1 (fun _ => False)) (fun _ _ h => h)) HLN.out.2 H2.out.1.row (by intro u hu; rcases List.mem_append.1 hu with hu | hu; exact el_e.one e u hu; exact fl_one el_e _ u hu) HZ.out.2.2.1 HZ.out.2.2.2 ?_; (case hs => simp [Act.eval, Act.put]); (case hx => simp [Act.eval, Act.put]); rw [HN1.out, HEQ.out]; intro yo yc w3 hx hch _ hx2; have hS2 : w3.cell? ⟨q, 1, none⟩ = some (.slice (some ⟨b, off, none⟩) n cap) ∧ w3.cell? ⟨b, off + k * 4, none⟩ = some (.string e.key) ∧ w3.cell? ⟨b, off + k * 4 + 1, none⟩ = some (.slice e.vo e.body.length e.vc) ∧ w3.cell? ⟨b, off + k * 4 + 2, none⟩ = some (.int .u64 (e.ver : Int)) ∧ w3.cell? ⟨b, off + k * 4 + 3, none⟩ = some (.int .u64 (e.own : Int)) := ⟨hch.cell H2.out.2.2.2.1 HNX.out.1, hch.cell H2.out.2.2.2.2.1 HNX.out.2, hch.cell H2.out.2.2.2.2.2.1 HNX.out.2, hch.cell H2.out.2.2.2.2.2.2.1 HNX.out.2, hch.cell H2.out.2.2.2.2.2.2.2 HNX.out.2⟩; have H3 := Lib.hid (And.intro hx (And.intro hch hx2)); clear hx hch hx2))
              all_goals go_wp2
              all_goals (
                go_roundg (K0 - 1)
                case measure => omega
                case rel =>
                  have hb2 := HR.out.below.trans (H2.out.2.1.mono HR.out.below.size)
                  have hb3 := hb2.trans (H3.out.2.1.below hb2.size (fun k ⟨a, ha, e⟩ => by cases ha; rw [← e]; exact hxw))
                  refine ⟨k + 1, yo, on + 1, yc, _, by omega, by go_num, rfl, rlist_end HR.out (List.mem_of_getElem? HE.out.1) HE.out.2 HPP.out (by rw [hel]; exact hK) HK.out.1 (HK.out.2.imp id (fun ⟨x, hx, h0⟩ => ⟨x, hx, by omega⟩)) hb3 H3.out.1 (fun a ha => ?_)⟩
                  rcases H3.out.2.2 a ha with h1 | h1
                  · cases h1; exact hxw
                  · exact Nat.le_trans hb2.size h1)
            -- END2
    · obtain rfl : k = n := by omega
      clear hrel hI2
      go_wp2
      go_ret
      have hm := HR.out.map
      rw [List.take_of_length_le (by rw [HI.out.len.2]; exact Nat.le_refl _)] at hm
      refine ⟨oo, oc, es, ?_, HR.out.below, ⟨HR.out.own.row, fun e he => ((HI.out.keep (Chg.of_below HR.out.below (fun _ => False)) (fun _ _ h => h)).body e (HR.out.sub e he)).1⟩, hm, HR.out.new, fun e he a ha => ((HI.out.body e (HR.out.sub e he)).2 a ha).1⟩
      rw [← hm, List.length_map, hel]
      rfl
theorem rlist_any (q : Nat) (cs : Array Value) (t : TypeId) (pre : ByteArray) (rs : List Pl) (G : List Nat) (w : World) (h : RTreeAt w q cs t rs G) (hn : rs.length ≤ 256) :
    Calls Tryz.prog 38 #[.pointer (some ⟨q, 1, none⟩), .string pre] w fun r w' => ∃ xo xc es, r = .returned (.slice xo (sortP (listP rs pre)).length xc) ∧ Below w.heap.size w w' ∧ NodesAt w' xo es ∧ es.map Nd.pl = sortP (listP rs pre) :=
  (rlist_at q cs t pre rs G w h hn).mono fun _ _ ⟨xo, xc, es, h1, h2, h3, h4, _⟩ => ⟨xo, xc, es, h1, h2, h3, h4⟩
end Go.Proofs.YtackmgmaippajaaGreat.Tr
