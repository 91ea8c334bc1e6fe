/-
  LAYER 16: a law's own Map; Awake.
-/
import Derived.Test.YtibigfglhpdjmaaDoorBunE
import Derived.Test.YtibigfglhpdjmaaDoorBunB
namespace Go.Proofs.YtibigfglhpdjmaaDoor
open Go Go.RowKit

/-- A list with one more, behind place q. -/
def putAt (l : List Nat) (q z : Nat) : List Nat := l.take (q + 1) ++ z :: l.drop (q + 1)
/-- Where a hash lies. -/
structure At (l : List Nat) (q z : Nat) : Prop where
  lt : q < l.length
  lo : ∀ k x, k ≤ q → l[k]? = some x → x ≤ z
  hi : ∀ k x, q < k → l[k]? = some x → z < x
theorem At.mem_lo {l : List Nat} {q z x : Nat} (h : At l q z) (hx : x ∈ l.take (q + 1)) : x ≤ z := by
  obtain ⟨k, hk⟩ := List.mem_iff_getElem?.1 hx
  rw [List.getElem?_take] at hk
  split at hk
  · exact h.lo k x (by omega) hk
  · cases hk
theorem At.mem_hi {l : List Nat} {q z x : Nat} (h : At l q z) (hx : x ∈ l.drop (q + 1)) : z < x := by
  obtain ⟨k, hk⟩ := List.mem_iff_getElem?.1 hx
  rw [List.getElem?_drop] at hk
  exact h.hi _ x (by omega) hk
theorem putAt_mem {l : List Nat} {q z x : Nat} : x ∈ putAt l q z ↔ x = z ∨ x ∈ l := by
  rw [putAt, List.mem_append, List.mem_cons]
  constructor
  · rintro (h | h | h)
    · exact .inr (List.mem_of_mem_take h)
    · exact .inl h
    · exact .inr (List.mem_of_mem_drop h)
  · rintro (h | h)
    · exact .inr (.inl h)
    · rw [← List.take_append_drop (q + 1) l] at h
      rcases List.mem_append.1 h with h | h
      · exact .inl h
      · exact .inr (.inr h)
theorem Ok.put {l : List Nat} {q z : Nat} (h : Ok l) (ha : At l q z) (hl : l.length < 16) (hz : z < 65536) (hm : z ∉ l) : Ok (putAt l q z) := by
  refine ⟨?_, ?_, ?_, ?_⟩
  · have hi := h.inc
    rw [Inc, ← List.take_append_drop (q + 1) l] at hi
    obtain ⟨h1, h2, h3⟩ := List.pairwise_append.1 hi
    refine List.pairwise_append.2 ⟨h1, List.pairwise_cons.2 ⟨fun y hy => ha.mem_hi hy, h2⟩, fun x hx y hy => ?_⟩
    have hxz : x < z := by
      have := ha.mem_lo hx
      have hne : x ≠ z := fun e => hm (by rw [← e]; exact List.mem_of_mem_take hx)
      omega
    rcases List.mem_cons.1 hy with rfl | hy
    · exact hxz
    · exact h3 x hx y hy
  · rw [putAt, List.getElem?_append_left (by have := ha.lt; simp; omega), List.getElem?_take, if_pos (by omega)]
    exact h.zero
  · have := ha.lt
    rw [putAt]
    simp
    omega
  · intro x hx
    rcases putAt_mem.1 hx with rfl | hx
    · exact hz
    · exact h.top x hx
theorem Ok.one : Ok [0] := ⟨List.pairwise_singleton _ _, rfl, by decide, by simp⟩
structure MapIn (w0 w : World) (p : Nat) (l F : List Nat) : Prop where
  map : MapAt w p l F
  new : ∀ k ∈ F, w0.heap.size ≤ k
  below : Below w0.heap.size w0 w
  ok : Ok l
theorem MapIn.stays {w0 w w' : World} {p : Nat} {l F : List Nat} (h : MapIn w0 w p l F) (hb : Below w.heap.size w w') : MapIn w0 w' p l F :=
  ⟨h.map.stays hb, h.new, h.below.trans (hb.mono h.below.size), h.ok⟩
theorem MapIn.alloc {w0 w : World} {p : Nat} {l F : List Nat} (h : MapIn w0 w p l F) (o : Obj) : MapIn w0 (w.alloc o) p l F :=
  h.stays ((Below.refl _ w).alloc (Nat.le_refl _) o)
theorem MapIn.drew {w0 w : World} {p : Nat} {l F : List Nat} (h : MapIn w0 w p l F) : MapIn w0 w.drew p l F :=
  h.stays (Below.refl _ w).drew
theorem new_in (w0 w : World) (hb : Below w0.heap.size w0 w) : Calls Tryd.prog 12 #[] w fun e w' => ∃ p F, e = .returned (.pointer (some ⟨p, 0, none⟩)) ∧ Below w.heap.size w w' ∧ MapIn w0 w' p [0] F := by
  refine (new_any w).mono ?_
  rintro e w' ⟨p, F, rfl, h1, h2, h3⟩
  exact ⟨p, F, rfl, h1, h2, fun k hk => Nat.le_trans hb.size (h3 k hk), hb.trans (h1.mono hb.size), Ok.one⟩
/-- Split, in plain words. -/
inductive SplitP (l : List Nat) (z : Int) : Nat → List Nat → Prop
  | out : (z < 1 ∨ 65535 < z) → SplitP l z 2 l
  | has (k : Nat) : z = (k : Int) → 1 ≤ k → k < 65536 → k ∈ l → SplitP l z 12 l
  | full (k : Nat) : z = (k : Int) → 1 ≤ k → k < 65536 → k ∉ l → l.length = 16 → SplitP l z 14 l
  | go (k q : Nat) : z = (k : Int) → 1 ≤ k → k < 65536 → k ∉ l → l.length < 16 → At l q k → SplitP l z 0 (putAt l q k)
theorem split_in (w0 w : World) (p : Nat) (l F : List Nat) (z : Int) (h : MapIn w0 w p l F) :
    Calls Tryd.prog 13 #[.pointer (some ⟨p, 0, none⟩), .int .i64 z] w fun e w' => ∃ (c : Nat) (l' F' : List Nat), e = .returned (.int .i64 (c : Int)) ∧ SplitP l z c l' ∧ MapIn w0 w' p l' F' ∧ Chg (· ∈ F) w w' ∧ (∀ k ∈ F', k ∈ F ∨ w.heap.size ≤ k) := by
  by_cases hz : z < 1 ∨ 65535 < z
  · refine (split_out _ z w hz).mono ?_
    rintro e w' ⟨rfl, hb⟩
    exact ⟨2, l, F, rfl, .out hz, h.stays hb, Chg.of_below hb _, fun k hk => .inl hk⟩
  · obtain ⟨k, rfl⟩ : ∃ k : Nat, z = (k : Int) := ⟨z.toNat, by omega⟩
    by_cases hm : k ∈ l
    · refine (split_has p l F k w h.map h.ok.len (by omega) (by omega) hm).mono ?_
      rintro e w' ⟨rfl, hb⟩
      exact ⟨12, l, F, rfl, .has k rfl (by omega) (by omega) hm, h.stays hb, Chg.of_below hb _, fun k hk => .inl hk⟩
    · by_cases hl : l.length < 16
      · refine (split_go p l F k w h.map h.ok hl (by omega) (by omega) hm).mono ?_
        rintro e w' ⟨rfl, q, F', h1, h2, h3, h4, h5, h6⟩
        exact ⟨0, putAt l q k, F', rfl, .go k q rfl (by omega) (by omega) hm hl ⟨h2, h3, h4⟩, ⟨h1, fun i hi => (h6 i hi).elim (h.new i) (Nat.le_trans h.below.size), h.below.trans (h5.below h.below.size h.new), h.ok.put ⟨h2, h3, h4⟩ hl (by omega) hm⟩, h5, h6⟩
      · have := h.ok.len
        refine (split_full p l F k w h.map (by omega) (by omega) (by omega) hm).mono ?_
        rintro e w' ⟨rfl, hb⟩
        exact ⟨14, l, F, rfl, .full k rfl (by omega) (by omega) hm (by omega), h.stays hb, Chg.of_below hb _, fun k hk => .inl hk⟩
theorem of_in (w0 w : World) (p : Nat) (l F : List Nat) (z : Nat) (h : MapIn w0 w p l F) (hz : z < 65536) :
    Calls Tryd.prog 15 #[.pointer (some ⟨p, 0, none⟩), .int .i64 (z : Int)] w fun e w' => ∃ a b : Nat, e = .returned (.tuple #[.int .i64 (a : Int), .int .i64 (b : Int), .bool true]) ∧ Below w.heap.size w w' ∧ OfP l z a b :=
  of_any p l F z w h.map h.ok hz
theorem awake_split {c : Nat} {l' : List Nat} (h : SplitP [0] 16384 c l') : c = 0 ∧ l' = [0, 16384] := by
  cases h with
  | out h => omega
  | has k e _ _ hm => simp at hm; omega
  | full k e _ _ _ hl => simp at hl
  | go k q e _ _ _ _ ha =>
    have := ha.lt
    simp at this
    subst this
    obtain rfl : k = 16384 := by omega
    exact ⟨rfl, rfl⟩
theorem awake_of {a b : Nat} (h : OfP [0, 16384] 5 a b) : a = 0 ∧ b = 16384 := by
  obtain ⟨q, h1, h2, h3, h4⟩ := h
  have hq : q < 2 := by have := (List.getElem?_eq_some_iff.1 h1).1; simpa using this
  have : q ≠ 1 := by
    rintro rfl
    have := h3 1 16384 (Nat.le_refl _) rfl
    omega
  obtain rfl : q = 0 := by omega
  simp at h1 h2
  omega
theorem awake_name : nameOf 0 16384 = ⟨#[48, 48, 48, 48, 45, 52, 48, 48, 48]⟩ := by
  have h0 : hexN 0 = [48] := by rw [hexN]; rfl
  have h1 : hexN 16384 = [52, 48, 48, 48] := by
    rw [hexN, if_neg (by decide), hexN, if_neg (by decide), hexN, if_neg (by decide), hexN, if_pos (by decide)]; rfl
  rw [nameOf, pad4, pad4, h0, h1]; rfl
-- BEGIN1
theorem awake (w : World) (hT : Tab w) : Calls Tryd.prog 8 #[] w fun e w' => e = .returned (.bool true) ∧ Below w.heap.size w w' := by
  go_enter Tryd.func8, Tryd.ntmps8
  go_wp2_with fail
  (with_reducible refine (new_in w _ (Below.refl _ _)).mono ?_)
  rintro e1 w1 ⟨p, F, rfl, _, hn1⟩
  have H1 := Lib.hid hn1
  clear hn1
  go_wp2_with fail
  (with_reducible refine (split_in w _ p [0] F 16384 H1.out).mono ?_)
  rintro e2 w2 ⟨c, l', F2, rfl, hs, hn2, _, _⟩
  obtain ⟨rfl, rfl⟩ := awake_split hs
  have H2 := Lib.hid hn2
  clear hn2 hs
  go_wp2_with fail
  have hof : Calls Tryd.prog 15 #[.pointer (some ⟨p, 0, none⟩), .int .i64 5] w2 _ := of_in w _ p _ F2 5 H2.out (by decide)
  (with_reducible refine hof.mono ?_)
  clear hof
  rintro e3 w3 ⟨a, b, rfl, hb3, ho⟩
  obtain ⟨rfl, rfl⟩ := awake_of ho
  have H3 := Lib.hid (H2.out.stays hb3)
  clear hb3 ho
  have HN := awake_name
  go_wp2_with fail
  have hnm : Calls Tryd.prog 9 #[.int .i64 0, .int .i64 16384] w3 _ := name_any 0 16384 _ (hT.below H3.out.below) (by decide) (by decide)
  (with_reducible refine hnm.mono ?_)
  clear hnm
  rintro e4 w4 ⟨rfl, hb4⟩
  go_wp2
  go_ret
  exact ⟨rfl, H3.out.below.trans (hb4.mono H3.out.below.size)⟩
-- END1
end Go.Proofs.YtibigfglhpdjmaaDoor
