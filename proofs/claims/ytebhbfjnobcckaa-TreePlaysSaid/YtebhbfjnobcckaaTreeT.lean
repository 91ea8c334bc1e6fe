/-
  LAYER 6: the document's Get, Drop, Put.
-/
import Derived.Test.YtebhbfjnobcckaaTreeS
namespace Go.Proofs.Ytebhbfjnobcckaa
open Go Go.RowKit

set_option maxHeartbeats 1000000 in
theorem rget_none (q : Nat) (rs : List Pl) (G : List Nat) (key : ByteArray) (w : World) (h : RTreeAt w q rs G) (hn : rs.length ≤ 256) (hl : ∀ x ∈ rs, cmpB x.key key ≠ 0) :
    Calls Try.prog 27 #[.pointer (some ⟨q, 0, none⟩), .string key] w fun r w' => r = .returned (.tuple #[zeroNd, .bool false]) ∧ Below w.heap.size w w' := by
  obtain ⟨lo, n, cap, l, h⟩ := h
  have HA := Lib.hid ((Below.refl _ w).alloc (Nat.le_refl _) (.cells #[.string ⟨#[]⟩, .slice none 0 0, .int .u64 0, .int .u64 0] 32))
  have hT := heap_top w (.cells #[.string ⟨#[]⟩, .slice none 0 0, .int .u64 0, .int .u64 0] 32)
  have HAT := Lib.hid (rat_to q lo n cap l rs G key n (-1) _ (h.keep (Chg.of_below HA.out (fun _ => False)) (fun _ _ h => h)) (by have := h.len.2; omega) (Nat.le_refl _) (fun x hx => hl x (List.mem_of_mem_take hx)) (.inl ⟨rfl, rfl⟩))
  obtain ⟨b0, b1, b2, b3, b4⟩ := cells4 hT
  clear h hT
  go_enter Try.func27, Try.ntmps27
  go_wp2_with (go_at_call 32; (with_reducible refine HAT.out.mono ?_); rintro r w2 ⟨rfl, rfl⟩)
  have hT := heap_top w (.cells #[.string ⟨#[]⟩, .slice none 0 0, .int .u64 0, .int .u64 0] 32)
  obtain ⟨c0, c1, c2, c3, _⟩ := cells4 hT
  refine bodyPost_ret (v := .tuple #[zeroNd, .bool false]) ?_ rfl ?_
  · simp [results, Try.results27, go_sem, c0, c1, c2, c3]
    rfl
  · exact ⟨rfl, HA.out⟩
set_option maxHeartbeats 1000000 in
theorem rget_some (q : Nat) (rs : List Pl) (G : List Nat) (key : ByteArray) (x : Pl) (i : Nat) (w : World) (h : RTreeAt w q rs G) (hn : rs.length ≤ 256) (hx : rs[i]? = some x) (h0 : cmpB x.key key = 0) (hno : ∀ y ∈ rs.take i, cmpB y.key key ≠ 0) :
    Calls Try.prog 27 #[.pointer (some ⟨q, 0, none⟩), .string key] w fun r w' => ∃ bo bc, r = .returned (.tuple #[(Nd.mk x.key x.body x.ver x.own bo bc).val, .bool true]) ∧ Below w.heap.size w w' ∧ Bts w' bo x.body := by
  obtain ⟨lo, n, cap, l, h⟩ := h
  have HA := Lib.hid ((Below.refl _ w).alloc (Nat.le_refl _) (.cells #[.string ⟨#[]⟩, .slice none 0 0, .int .u64 0, .int .u64 0] 32))
  have hi : i < n := by have := (List.getElem?_eq_some_iff.1 hx).1; have := h.len.2; omega
  have h' := h.keep (Chg.of_below HA.out (fun _ => False)) (fun _ _ h => h)
  have HAT := Lib.hid (rat_to q lo n cap l rs G key i (i : Int) _ h' (by have := h.len.2; omega) (by omega) hno (.inr ⟨rfl, x, hx, h0⟩))
  obtain ⟨e, he, rfl⟩ := h.got hx
  have hii : (i : Int) < (n : Int) := by omega
  have hi0 : (0 : Int) ≤ (i : Int) := by omega
  obtain ⟨b, off, hlo', q0, q1, q2, q3⟩ := nd_at h'.own.row he
  subst hlo'
  obtain ⟨z0, z2⟩ := cells1 h'.heap
  have HB := Lib.hid (h'.body e (List.mem_of_getElem? he)).1
  obtain ⟨xk, xb, xv, xw, xo, xc⟩ := e
  dsimp only [Nd.pl] at *
  have hT := heap_top w (.cells #[.string ⟨#[]⟩, .slice none 0 0, .int .u64 0, .int .u64 0] 32)
  obtain ⟨b0, b1, b2, b3, b4⟩ := cells4 hT
  have hT2 := heap_top w (.cells #[.string xk, .slice xo xb.length xc, .int .u64 (xv : Int), .int .u64 (xw : Int)] 32)
  have HT2 := Lib.hid hT2
  have HA2 := Lib.hid ((Below.refl _ w).alloc (Nat.le_refl _) (.cells #[.string xk, .slice xo xb.length xc, .int .u64 (xv : Int), .int .u64 (xw : Int)] 32))
  have HB0 := Lib.hid (h.body ⟨xk, xb, xv, xw, xo, xc⟩ (List.mem_of_getElem? he)).1
  clear h h' hx h0 hno he hT hT2 hn
  go_enter Try.func27, Try.ntmps27
  go_wp2_with (go_at_call 32; (with_reducible refine HAT.out.mono ?_); rintro r w2 ⟨rfl, rfl⟩)
  obtain ⟨c0, c1, c2, c3, _⟩ := cells4 HT2.out
  refine bodyPost_ret (v := .tuple #[(Nd.mk xk xb xv xw xo xc).val, .bool true]) ?_ rfl ?_
  · simp [results, Try.results27, go_sem, c0, c1, c2, c3]
    rfl
  · exact ⟨xo, xc, rfl, HA2.out, HB0.out.below HA2.out⟩
theorem drop_pick (l : List Pl) (own : Nat) : l.filter (fun x => decide (own = 0) || !(x.own == own)) = dropP l own := by
  unfold dropP
  by_cases h : own = 0
  · rw [if_pos h]
    exact List.filter_eq_self.2 (fun x _ => by simp [h])
  · rw [if_neg h]
    congr 1
    funext x
    simp [h]
theorem filter_pl (es : List Nd) (f : Pl → Bool) : (es.filter (fun e => f e.pl)).map Nd.pl = (es.map Nd.pl).filter f := by
  rw [List.filter_map]; rfl
set_option maxHeartbeats 2000000 in
set_option maxRecDepth 100000 in
theorem rdrop_any (q : Nat) (rs : List Pl) (G : List Nat) (own : Nat) (w : World) (h : RTreeAt w q rs G) (hn : rs.length ≤ 256) :
    Calls Try.prog 20 #[.pointer (some ⟨q, 0, none⟩), .int .u64 (own : Int)] w fun r w' => r = .returned (.tuple #[]) ∧ RWrote w w' q (dropP rs own) G := by
  obtain ⟨lo, n, cap, l, h⟩ := h
  have hn256 : n ≤ 256 := by have := h.len.2; omega
  have HI := Lib.hid h
  clear h hn
  go_enter Try.func20, Try.ntmps20
  go_wp2
  go_loopg [4, 5] n (fun g v4 v5 wr => ∃ (k : Nat) (oo : Option Addr) (on oc : Nat), g + k = n ∧ v5 = .int .i64 k ∧ v4 = .slice oo on oc ∧ PickRel w wr l (fun _ => false) (fun e => decide (own = 0) || !(e.own == own)) 0 k none 0 0 oo on oc)
  case atStart => exact ⟨0, none, 0, 0, by omega, rfl, rfl, PickRel.zero _ _ _ _⟩
  case round =>
    obtain ⟨k, oo, on, oc, hgk, rfl, rfl, hp⟩ := hrel
    have HP := Lib.hid hp
    have hI2 := HI.out.keep (Chg.of_below hp.below (fun _ => False)) (fun _ _ h => h)
    obtain ⟨z0, z2⟩ := cells1 hI2.heap
    have hon : on ≤ 256 := by
      have h1 := fl_own_len el_e hp.two
      have h2 := List.length_filter_le (fun e => decide (own = 0) || !(e.own == own)) (l.take k)
      have h3 : (l.take k).length ≤ l.length := by rw [List.length_take]; omega
      have := HI.out.len.1
      omega
    clear hp
    have hA2 := fun (W : World) (o : Obj) => (Below.refl W.heap.size W).alloc (Nat.le_refl _) o
    by_cases hk : k < n
    · obtain ⟨e, he⟩ : ∃ e, l[k]? = some e := ⟨_, List.getElem?_eq_getElem (by rw [HI.out.len.1]; exact hk)⟩
      obtain ⟨b, off, rfl, q0, q1, q2, q3⟩ := nd_at hI2.own.row he
      have HE := Lib.hid he
      have hkI : (k : Int) < (n : Int) := by omega
      clear hI2 he
      by_cases ho : own = 0
      · subst ho
        have HG := Lib.hid (show (decide (0 = 0) || !(e.own == 0)) = true by simp)
        as_aux_lemma =>
          go_wp2_with (at_builtin; refine wpList_append' rfl (.tmp 29) (.tmp 37) el_i rfl rfl rfl (HP.out.stays (hA2 _ _)).two (m := 1) (news := e.cells) rfl (Row.alloc _ #[.string e.key, .slice e.vo e.body.length e.vc, .int .u64 (e.ver : Int), .int .u64 (e.own : Int)] 32 (0, 0)) (el_e.one e) (by unfold maxLen; omega) (by omega) ?_; intro xo xc w6 hx hch _ hx2; have H6 := Lib.hid (HP.out.swap.add1 HE.out HG.out (hA2 _ _) hx hch hx2).swap; clear hx hch hx2)
          go_roundg (gk - 1)
          case measure => omega
          case rel => exact ⟨k + 1, xo, on + 1, xc, by omega, by go_num, rfl, H6.out⟩
      · have hoi : ((own : Int) == 0) = false := by simp; omega
        by_cases heo : e.own = own
        · have hei : ((e.own : Int) == (own : Int)) = true := by simp; omega
          have hej : (e.own : Int) = (own : Int) := by omega
          have HG := Lib.hid (show (decide (own = 0) || !(e.own == own)) = false by simp [ho, heo])
          clear ho heo
          as_aux_lemma =>
            go_wp2
            go_roundg (gk - 1)
            case measure => omega
            case rel => exact ⟨k + 1, oo, on, oc, by omega, by go_num, rfl, (HP.out.swap.skip1 HE.out HG.out).swap⟩
        · have hei : ((e.own : Int) == (own : Int)) = false := by simp; omega
          have HG := Lib.hid (show (decide (own = 0) || !(e.own == own)) = true by simp [heo])
          clear ho heo
          as_aux_lemma =>
            go_wp2_with (at_builtin; refine wpList_append' rfl (.tmp 29) (.tmp 37) el_i rfl rfl rfl (HP.out.stays (hA2 _ _)).two (m := 1) (news := e.cells) rfl (Row.alloc _ #[.string e.key, .slice e.vo e.body.length e.vc, .int .u64 (e.ver : Int), .int .u64 (e.own : Int)] 32 (0, 0)) (el_e.one e) (by unfold maxLen; omega) (by omega) ?_; intro xo xc w6 hx hch _ hx2; have H6 := Lib.hid (HP.out.swap.add1 HE.out HG.out (hA2 _ _) hx hch hx2).swap; clear hx hch hx2)
            go_roundg (gk - 1)
            case measure => omega
            case rel => exact ⟨k + 1, xo, on + 1, xc, by omega, by go_num, rfl, H6.out⟩
    · obtain rfl : k = n := by omega
      clear hI2
      go_wp2
      go_end0
      have h2 := HP.out.two
      rw [List.take_of_length_le (by rw [HI.out.len.1]; exact Nat.le_refl _)] at h2
      refine ⟨rfl, rtree_end HI.out HP.out.below ?_ h2 HP.out.new2 (fun e he => .inl (List.mem_filter.1 he).1)⟩
      exact (filter_pl l (fun x => decide (own = 0) || !(x.own == own))).trans (by rw [HI.out.map, drop_pick])
end Go.Proofs.Ytebhbfjnobcckaa
