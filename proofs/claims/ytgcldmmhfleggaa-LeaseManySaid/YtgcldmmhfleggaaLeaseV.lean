/-
  THE LAW LeaseMany OF LAYER 7, WALKED.
-/
import Derived.Test.YtgcldmmhfleggaaLeaseR
namespace Go.Proofs.Ytgcldmmhfleggaa
open Go Go.RowKit

def sessN (n k : Nat) : List Sess := (List.range k).map (fun (j : Nat) => ⟨n + 1 + j, 5, 5⟩)
theorem sessN_succ (n k : Nat) : sessN n k ++ [⟨n + k + 1, endsOf 0 5, 5⟩] = sessN n (k + 1) := by
  have e : endsOf 0 5 = 5 := rfl
  simp [sessN, List.range_succ, e]; omega
theorem sessN_len (n k : Nat) : (sessN n k).length = k := by simp [sessN]
/-- Numbers that rise, none above the last one. -/
def Rise (l : List Sess) (L : Nat) : Prop := l.Pairwise (fun a b => a.id < b.id) ∧ ∀ e ∈ l, e.id ≤ L
theorem sessN_rise (n k : Nat) : Rise (sessN n k) (n + k) := by
  induction k with
  | zero => exact ⟨by simp [sessN], by simp [sessN]⟩
  | succ k ih =>
    rw [← sessN_succ]
    refine ⟨List.pairwise_append.2 ⟨ih.1, by simp, fun a ha b hb => ?_⟩, fun e he => ?_⟩
    · rw [List.mem_singleton] at hb; subst hb
      have := ih.2 a ha; dsimp only; omega
    · rcases List.mem_append.1 he with h | h
      · have := ih.2 e h; omega
      · rw [List.mem_singleton] at h; subst h; dsimp only; omega
theorem Rise.first {l : List Sess} {L q : Nat} {e : Sess} (h : Rise l L) (he : l[q]? = some e) : ∀ y ∈ l.take q, y.id ≠ e.id := by
  intro y hy
  obtain ⟨j, hj, rfl⟩ := List.getElem_of_mem hy
  rw [List.length_take] at hj
  rw [List.getElem_take]
  obtain ⟨hq, hqe⟩ := List.getElem?_eq_some_iff.1 he
  have := List.pairwise_iff_getElem.1 h.1 j q (by omega) hq (by omega)
  rw [hqe] at this
  omega
theorem Rise.next {l : List Sess} {L q x y : Nat} (h : Rise l L) : Rise (l.eraseIdx q ++ [⟨L + 1, x, y⟩]) (L + 1) := by
  have hs := List.eraseIdx_sublist l q
  refine ⟨List.pairwise_append.2 ⟨h.1.sublist hs, by simp, fun a ha b hb => ?_⟩, fun e he => ?_⟩
  · rw [List.mem_singleton] at hb; subst hb
    have := h.2 a (hs.subset ha); dsimp only; omega
  · rcases List.mem_append.1 he with h1 | h1
    · have := h.2 e (hs.subset h1); omega
    · rw [List.mem_singleton] at h1; subst h1; dsimp only; omega
theorem pick16 {b : UInt8} {q : Nat} (h : (b.toNat : Int) % 16 = (q : Int)) : wrap64 (b.toNat : Int) = (b.toNat : Int) ∧ (b.toNat : Int).tmod 16 = (q : Int) := by
  have hbt := b.toNat_lt
  exact ⟨IntWalk.wrap64_in _ (by omega), by rw [Int.tmod_eq_emod_of_nonneg (by omega)]; exact h⟩
set_option maxHeartbeats 4000000 in
set_option maxRecDepth 100000 in
theorem leaseMany_any (a : UInt8) (po : Option Addr) (m d : Nat) (gs : List UInt8) (w : World) (hpl : gs.length = m) (hp : Bts w po gs) (hpm : m ≤ maxLen) :
    Calls Try.prog 5 #[.int .u8 (a.toNat : Int), .slice po m d] w fun e w' => e = .returned (.bool true) ∧ Below w.heap.size w w' := by
  have HH := Lib.hid (And.intro hpl hp)
  clear hpl hp
  unfold maxLen at hpm
  have hat := a.toNat_lt
  generalize a.toNat = n at *
  go_enter Try.func5, Try.ntmps5
  go_wp2_with (first
    | (go_at_call 8; (with_reducible refine (awake _).mono ?_); rintro e1 w1 ⟨rfl, hw⟩; have HW := Lib.hid hw; clear hw)
    | (go_at_call 9; (with_reducible refine (new_in w _ _ n rfl (by omega) HW.out).mono ?_); rintro e1 w2 ⟨p, rfl, _, hn1, _⟩; have H1 := Lib.hid hn1; clear hn1))
  go_loopg [7, 28] 16 (fun g vl vi wr => ∃ (k : Nat) (F : List Nat), g + k = 16 ∧ vi = .int .i64 k ∧ vl = .int .u64 ((n + k : Nat) : Int) ∧ BookIn w wr p (n + k) (sessN n k) F)
  case atStart => exact ⟨0, [p], by omega, rfl, rfl, H1.out⟩
  case round =>
    obtain ⟨k, F, hgk, rfl, rfl, hbk⟩ := hrel
    have HN := Lib.hid hbk
    clear hbk
    by_cases hk : k < 16
    · have hki : (k : Int) < 16 := by omega
      have hw := IntWalk.u64_in ((n : Int) + (k : Int) + 1) (by omega)
      have HL := Lib.hid (show (sessN n k).length < 16 by rw [sessN_len]; exact hk)
      go_wp2_with (go_at_call 10; (with_reducible refine (open_in w p (n + k) _ _ 0 5 0 5 _ HN.out rfl rfl HL.out (by omega) (by decide) (by decide)).mono ?_); rintro e2 w3 ⟨rfl, F3, hn3, _, _⟩; rw [sessN_succ] at hn3; have H3 := Lib.hid hn3; clear hn3)
      go_roundg (gk - 1)
      case measure => omega
      case rel => exact ⟨k + 1, F3, by omega, by go_num, by push_cast; rfl, H3.out⟩
    · obtain rfl : k = 16 := by omega
      clear hk hgk
      go_wp2
      obtain ⟨G1, rfl⟩ : ∃ G1, G1 = gk := ⟨_, rfl⟩
      obtain ⟨wo, rfl⟩ : ∃ wo, wo = wr := ⟨_, rfl⟩
      go_loopg [7, 47] m (fun g vl vi wr => ∃ (k L : Nat) (l : List Sess) (F : List Nat), g + k = m ∧ vi = .int .i64 k ∧ vl = .int .u64 (L : Int) ∧ BookIn w wr p L l F ∧ l.length = 16 ∧ Rise l L ∧ L ≤ 300 + k ∧ k ≤ 41)
      case atStart => exact ⟨0, n + 16, _, F, by omega, rfl, by push_cast; rfl, HN.out, sessN_len n 16, sessN_rise n 16, by omega, by omega⟩
      case round =>
        clear HN
        obtain ⟨k, L, l, F2, hgk, rfl, rfl, hbk, hl16, hri, hL, hk41⟩ := hrel
        have HN := Lib.hid hbk
        clear hbk
        by_cases hk : k < m
        · obtain ⟨z, off, rfl, hcell⟩ := HH.out.2.below HN.out.below (by intro h; have := congrArg List.length h; rw [List.length_map, HH.out.1] at this; simp at this; omega)
          obtain ⟨b, hb⟩ : ∃ b, gs[k]? = some b := ⟨_, List.getElem?_eq_getElem (by rw [HH.out.1]; exact hk)⟩
          have c0 := hcell k (cb b) (by rw [List.getElem?_map, hb]; rfl)
          clear hcell hb
          unfold cb at c0
          by_cases h40 : k ≤ 40
          · obtain ⟨q, hq, hql⟩ : ∃ q : Nat, (b.toNat : Int) % 16 = (q : Int) ∧ q < 16 := ⟨b.toNat % 16, by omega, by omega⟩
            obtain ⟨e, he⟩ : ∃ e, l[q]? = some e := ⟨_, List.getElem?_eq_getElem (by omega)⟩
            have HI := Lib.hid (And.intro hl16 (And.intro hri (And.intro he (hri.first he))))
            have HE := Lib.hid (show (l.eraseIdx q).length < 16 by rw [List.length_eraseIdx, if_pos (by omega), hl16]; decide)
            have hw := IntWalk.u64_in ((L : Int) + 1) (by omega)
            have hqi : (q : Int) < 16 := by omega
            have hbt := b.toNat_lt
            obtain ⟨hbw, hqt⟩ := pick16 hq
            clear hq hbt
            have h16 := Lib.hid (show 16 ≤ l.length by omega)
            have hlm := Lib.hid (show l.length ≤ 1000000 ∧ 0 < l.length ∧ l.length ≤ 4096 by omega)
            obtain ⟨x0, x1, x2⟩ := e
            clear he hri hl16
            go_wp2_with (first
              | (go_at_call 10; (with_reducible refine (open_many p L l F2 0 5 _ HN.out.book h16.out (by decide)).mono ?_); rintro e2 w3 ⟨rfl, rfl⟩)
              | (go_at_call 15; (with_reducible refine (all_some p L l F2 _ HN.out.book hlm.out.1 hlm.out.2.1).mono ?_); rintro e4 w4 ⟨xo, nn, xc, rfl, hb4, ho4⟩; obtain rfl : nn = 16 := ((fl_own_len el_e ho4).symm.trans HI.out.1); obtain ⟨b4, o4, rfl, hcs⟩ := el_at ho4 HI.out.2.2.1; obtain ⟨s0, s1, s2, _⟩ := hcs _ _ _ rfl; have H4 := Lib.hid (HN.out.stays hb4); clear hb4 ho4 hcs)
              | (go_at_call 16; (with_reducible refine (close_some p L x0 q _ l F2 _ H4.out.book hlm.out.2.2 HI.out.2.2.1 rfl HI.out.2.2.2).mono ?_); rintro e5 w5 ⟨rfl, hn5⟩; obtain ⟨F5, hf5, _, _⟩ := H4.out.wrote hn5; have H5 := Lib.hid hf5; clear hn5 hf5)
              | (go_at_call 10; (with_reducible refine (open_in w p L _ _ 1 5 1 5 _ H5.out rfl rfl HE.out (by omega) (by decide) (by decide)).mono ?_); rintro e6 w6 ⟨rfl, F6, hn6, _, _⟩; have H6 := Lib.hid hn6; clear hn6))
            go_roundg (gk - 1)
            case measure => omega
            case rel => exact ⟨k + 1, L + 1, _, F6, by omega, by go_num, by push_cast; rfl, H6.out, by rw [List.length_append, List.length_eraseIdx, if_pos (by rw [HI.out.1]; exact hql), HI.out.1]; rfl, HI.out.2.1.next, by omega, by omega⟩
          · go_wp2
            go_ret
            exact ⟨rfl, HN.out.below⟩
        · go_wp2
          go_ret
          exact ⟨rfl, HN.out.below⟩
theorem leaseMany_in (W : World) (base : Nat) (v0 v1 : Value) (k0 : Value.okWide Try.prog W .any base 5 v0) (k1 : Value.okWide Try.prog W .any base 42 v1) (r0 : Rd Try.prog W 5 v0.cells.toList) (r1 : Rd Try.prog W 42 v1.cells.toList) :
    Calls Try.prog 5 #[v0, v1] W fun e w' => e = .returned (.bool true) ∧ Below W.heap.size W w' := by
  obtain ⟨a, rfl⟩ := in_u8 Try.underlying5 k0 r0
  obtain ⟨ao, bs, c, rfl, h1, h2, h3⟩ := in_bytesC Try.underlying42 Try.underlying5 (by kernel_rfl) k1 r1
  exact leaseMany_any a ao _ c bs W rfl h1 (Nat.le_trans h2 h3)
end Go.Proofs.Ytgcldmmhfleggaa
