/-
  LAYER 6: both trees; shows.
-/
import Derived.Test.YtebhbfjnobcckaaTreeX
import Derived.Test.YtebhbfjnobcckaaTreeT
namespace Go.Proofs.Ytebhbfjnobcckaa
open Go Go.RowKit

theorem Like.len {ps rs : List Pl} (h : Like ps rs) : rs.length = ps.length := (show ps.Perm rs from h).length_eq.symm
/-- Both trees. -/
structure Pair (w0 w : World) (p q : Nat) (ps rs : List Pl) (F G : List Nat) : Prop where
  a : TreeIn w0 w p ps F
  b : RTreeAt w q rs G
  new : ∀ k ∈ G, w0.heap.size ≤ k
  apart : ∀ k ∈ F, k ∉ G
structure PairBox (w0 w : World) (p q : Nat) (ps rs : List Pl) (F G : List Nat) (T : Nat) (o : Obj) : Prop extends Pair w0 w p q ps rs F G where
  act : w.heap[T]? = some o
  tf : T ∉ F
  tg : T ∉ G
section
variable {w0 w w' : World} {p q T : Nat} {ps ps' rs rs' : List Pl} {F F' G : List Nat} {o : Obj}
theorem Pair.stays (h : Pair w0 w p q ps rs F G) (hb : Below w.heap.size w w') : Pair w0 w' p q ps rs F G :=
  ⟨h.a.stays hb, h.b.keep (Chg.of_below hb (fun _ => False)) (fun _ _ h => h), h.new, h.apart⟩
theorem Pair.box (h : Pair w0 w p q ps rs F G) (o : Obj) : PairBox w0 (w.alloc o) p q ps rs F G w.heap.size o :=
  ⟨h.stays ((Below.refl _ w).alloc (Nat.le_refl _) o), heap_top w o, fun hk => Nat.lt_irrefl _ (h.a.tree.lt _ hk), fun hk => Nat.lt_irrefl _ (h.b.lt _ hk)⟩
theorem PairBox.stays (h : PairBox w0 w p q ps rs F G T o) (hb : Below w.heap.size w w') : PairBox w0 w' p q ps rs F G T o :=
  ⟨h.toPair.stays hb, (Chg.of_below hb (fun _ => False)).heap h.act (fun h => h), h.tf, h.tg⟩
theorem PairBox.drew (h : PairBox w0 w p q ps rs F G T o) : PairBox w0 w.drew p q ps rs F G T o := h.stays (Below.refl _ w).drew
theorem Pair.stepA (h : Pair w0 w p q ps rs F G) (hw : Wrote w w' p ps' F) (hf : Fine ps') : ∃ F', Pair w0 w' p q ps' rs F' G ∧ Chg (· ∈ F) w w' ∧ ∀ k ∈ F', k ∈ F ∨ w.heap.size ≤ k := by
  obtain ⟨F', h1, h2, h3⟩ := h.a.wrote hw hf
  refine ⟨F', ⟨h1, h.b.keep h2 (fun k hk hF => h.apart k hF hk), h.new, fun k hk hG => ?_⟩, h2, h3⟩
  rcases h3 k hk with h4 | h4
  · exact h.apart k h4 hG
  · have := h.b.lt k hG; omega
theorem Pair.stepB (h : Pair w0 w p q ps rs F G) (hw : RWrote w w' q rs' G) : ∃ G', Pair w0 w' p q ps rs' F G' ∧ Chg (· ∈ G) w w' ∧ ∀ k ∈ G', k ∈ G ∨ w.heap.size ≤ k := by
  obtain ⟨G', k1, k2, k3⟩ := hw
  refine ⟨G', ⟨h.a.keep k2 h.apart (fun k hk => h.new k hk), k1, fun k hk => ?_, fun k hk hG => ?_⟩, k2, k3⟩
  · rcases k3 k hk with h1 | h1
    · exact h.new k h1
    · exact Nat.le_trans h.a.below.size h1
  · rcases k3 k hG with h1 | h1
    · exact h.apart k hk h1
    · have := h.a.tree.lt k hk; omega
theorem PairBox.stepA (h : PairBox w0 w p q ps rs F G T o) (hw : Wrote w w' p ps' F) (hf : Fine ps') : ∃ F', PairBox w0 w' p q ps' rs F' G T o := by
  obtain ⟨F', h1, h2, h3⟩ := h.toPair.stepA hw hf
  refine ⟨F', h1, h2.heap h.act h.tf, fun hk => ?_, h.tg⟩
  rcases h3 T hk with h4 | h4
  · exact h.tf h4
  · have := heap_lt h.act; omega
theorem PairBox.stepB (h : PairBox w0 w p q ps rs F G T o) (hw : RWrote w w' q rs' G) : ∃ G', PairBox w0 w' p q ps rs' F G' T o := by
  obtain ⟨G', h1, h2, h3⟩ := h.toPair.stepB hw
  refine ⟨G', h1, h2.heap h.act h.tg, h.tf, fun hk => ?_⟩
  rcases h3 T hk with h4 | h4
  · exact h.tg h4
  · have := heap_lt h.act; omega
end
theorem rnew_pair {w0 w : World} {p : Nat} {ps : List Pl} {F : List Nat} (h : TreeIn w0 w p ps F) : Pair w0 (w.alloc (.cells #[.slice none 0 0] 45)) p w.heap.size ps [] F [w.heap.size] :=
  ⟨h.alloc _, ⟨none, 0, 0, [], rfl, heap_top w _, Own.nil' _ _, by simp [blk], by simp, by simp, by simp [blk], by simp [size_alloc]⟩, fun k hk => by rw [List.mem_singleton] at hk; subst hk; exact h.below.size, fun k hk hG => by rw [List.mem_singleton] at hG; subst hG; exact Nat.lt_irrefl _ (h.tree.lt _ hk)⟩
theorem four_at (K1 K2 K3 K4 : ByteArray) (j : Nat) (hj : j < 4) : ∃ K, (#[.string K1, .string K2, .string K3, .string K4] : Array Value)[j]? = some (.string K) := by
  have : j = 0 ∨ j = 1 ∨ j = 2 ∨ j = 3 := by omega
  rcases this with rfl | rfl | rfl | rfl <;> exact ⟨_, rfl⟩
set_option maxHeartbeats 2000000 in
set_option maxRecDepth 100000 in
theorem shows_any (w0 : World) (p q : Nat) (ps rs : List Pl) (F G : List Nat) (w : World) (h : Pair w0 w p q ps rs F G) (hl : Like ps rs) :
    Calls Try.prog 21 #[.pointer (some ⟨p, 0, none⟩), .pointer (some ⟨q, 0, none⟩)] w fun r w' => r = .returned (.bool true) ∧ Below w.heap.size w w' := by
  have HX := Lib.hid (And.intro h hl)
  have hA2 := fun (W : World) (o : Obj) => (Below.refl W.heap.size W).alloc (Nat.le_refl _) o
  clear h hl
  go_enter Try.func21, Try.ntmps21
  go_wp2
  generalize hW : (w.alloc (.cells #[.string ⟨#[]⟩, .string ⟨#[97]⟩, .string ⟨#[111, 119, 110, 47]⟩, .string ⟨#[109]⟩] 9)) = W
  have HW := Lib.hid (And.intro (hW ▸ hA2 w _ : Below w.heap.size w W) (hW ▸ heap_top w _ : W.heap[w.heap.size]? = some (.cells #[.string ⟨#[]⟩, .string ⟨#[97]⟩, .string ⟨#[111, 119, 110, 47]⟩, .string ⟨#[109]⟩] 9)))
  clear hW
  go_loopg [9] 4 (fun g v wr => ∃ j : Nat, g + j = 4 ∧ v = .int .i64 j ∧ Below W.heap.size W wr)
  case atStart => exact ⟨0, rfl, rfl, Below.refl _ _⟩
  case round =>
    obtain ⟨j, hgj, rfl, hb⟩ := hrel
    have HB := Lib.hid (And.intro hb (HX.out.1.stays ((HW.out.1).trans (hb.mono (HW.out.1).size))))
    clear hb
    by_cases hj : j < 4
    · obtain ⟨K, hK⟩ := four_at ⟨#[]⟩ ⟨#[97]⟩ ⟨#[111, 119, 110, 47]⟩ ⟨#[109]⟩ j hj
      have c0 := (heap_cell ((Chg.of_below HB.out.1 (fun _ => False)).heap HW.out.2 (fun h => h)) j).trans hK
      have jI : (j : Int) < 4 := by omega
      have j0 : (0 : Int) ≤ (j : Int) := by omega
      clear hK
      go_wp2_with fail
      (with_reducible refine (list_pre p K ps F wr HB.out.2.a.tree HB.out.2.a.fine.len HB.out.2.a.fine.body).mono ?_)
      rintro r w3 ⟨yo, yc, fs, rfl, hb3, hn3, hm3, _, _⟩
      have hsl := sort_like HX.out.2 HX.out.1.a.fine.sorted K
      have H3 := Lib.hid (And.intro hb3 (And.intro hn3 (And.intro hm3 (And.intro (HB.out.2.stays hb3) hsl))))
      clear hb3 hn3 hm3 hsl
      go_wp2_with fail
      (with_reducible refine (rlist_any q K rs G _ H3.out.2.2.2.1.b (by have := HX.out.2.len; have := HX.out.1.a.fine.len; omega)).mono ?_)
      rintro r w4 ⟨zo, zc, gs, rfl, hb4, hn4, hm4⟩
      rw [H3.out.2.2.2.2] at hm4 ⊢
      obtain ⟨N, hN⟩ : ∃ N, (listP ps K).length = N := ⟨_, rfl⟩
      have hN6 : N ≤ 1000000 := by
        have h1 : (listP ps K).length ≤ ps.length := List.length_filter_le ..
        have := HX.out.1.a.fine.len
        omega
      have H4 := Lib.hid (And.intro hb4 (And.intro hn4 (And.intro (H3.out.2.1.below hb4) (And.intro (show fs.length = N by rw [← hN, ← H3.out.2.2.1, List.length_map]) (show fs.map Nd.pl = gs.map Nd.pl by rw [hm4, H3.out.2.2.1])))))
      rw [hN]
      clear hb4 hn4 hm4 hN
      go_wp2_with fail
      (with_reducible refine (same_nodes yo zo N yc zc fs gs _ H4.out.2.2.1 H4.out.2.1 H4.out.2.2.2.1 H4.out.2.2.2.2 hN6).mono ?_)
      rintro r w5 ⟨rfl, hb5⟩
      have H5 := Lib.hid (HB.out.1.trans ((H3.out.1.trans ((H4.out.1.trans (hb5.mono H4.out.1.size)).mono H3.out.1.size)).mono HB.out.1.size))
      clear hb5
      go_wp2
      go_roundg (gk - 1)
      case measure => omega
      case rel => exact ⟨j + 1, by omega, by go_num, H5.out⟩
    · go_wp2
      go_ret
      exact ⟨rfl, HW.out.1.trans (HB.out.1.mono HW.out.1.size)⟩
end Go.Proofs.Ytebhbfjnobcckaa
