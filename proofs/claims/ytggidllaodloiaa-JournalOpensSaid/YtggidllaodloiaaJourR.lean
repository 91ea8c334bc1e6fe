/-
  LAYER 5: the document's Records.
-/
import Derived.Test.YtggidllaodloiaaJourM
import Derived.Test.YtggidllaodloiaaPackD
namespace Go.Proofs.Ytggidllaodloiaa
open Go Go.RowKit

theorem refunframe_hit (ao : Option Addr) (n c R : Nat) (x rest : List UInt8) (w : World) (hl : (frame x ++ rest).length = n) (hx : x.length ≤ 4096) (hn : n ≤ 1000000) (hb : Bts w ao (frame x ++ rest)) (hnc : n ≤ c) (hm : c ≤ maxLen) (hR : rest.length = R) :
    Calls Try.prog 25 #[.slice ao n c] w fun e w' => ∃ bo bc ro rc, e = .returned (.tuple #[.slice bo x.length bc, .slice ro R rc, .int .i64 0]) ∧ Below w.heap.size w w' ∧ Bts w' bo x ∧ ∀ a, bo = some a → ao.map (·.block) = some a.block := by
  subst hR
  refine (refunframeD ao n c _ w hl hn hb hnc hm).mono ?_
  rintro e w' ⟨bo, bc, ro, rc, rfl, h1, h2, _, h4⟩
  rw [unf_frame x rest hx] at h2 ⊢
  exact ⟨bo, bc, ro, rc, rfl, h1, h2, h4⟩
theorem refunframe_miss (ao : Option Addr) (n c : Nat) (b : List UInt8) (w : World) (hl : b.length = n) (hn : n ≤ 1000000) (hb : Bts w ao b) (hnc : n ≤ c) (hm : c ≤ maxLen) (h0 : (unf b).2.2 ≠ 0) :
    Calls Try.prog 25 #[.slice ao n c] w fun e w' => ∃ v1 v2 r, e = .returned (.tuple #[v1, v2, .int .i64 r]) ∧ Below w.heap.size w w' ∧ (r != 0) = true := by
  refine (refunframeD ao n c _ w hl hn hb hnc hm).mono ?_
  rintro e w' ⟨bo, bc, ro, rc, rfl, h1, _, _, _⟩
  exact ⟨_, _, _, rfl, h1, by simp; omega⟩
theorem map_block (ao : Option Addr) (n : Nat) : (ao.map (fun x => x.add n)).map (·.block) = ao.map (·.block) := by
  cases ao with
  | none => rfl
  | some a => simp [block_add]
set_option maxHeartbeats 4000000 in
set_option maxRecDepth 100000 in
theorem records_any (ao : Option Addr) (N c : Nat) (b : List UInt8) (L : List (List UInt8)) (r : List UInt8) (w : World) (hl : b.length = N) (hb : Bts w ao b) (hr : Recs b L r) (hN : N ≤ 1000000) (hNc : N ≤ c) (hm : c ≤ maxLen) :
    Calls Try.prog 17 #[.slice ao N c] w fun e w' => ∃ oo k cap es, e = .returned (.tuple #[.slice oo k cap, .int .i64 ((frames L).length : Int)]) ∧ Below w.heap.size w w' ∧ Bodies w' oo k cap es [] ∧ es.map BEnt.bs = L ∧
      (∀ a, oo = some a → w.heap.size ≤ a.block) ∧ ∀ e ∈ es, ∀ a, e.bo = some a → ao.map (·.block) = some a.block := by
  have HN := Lib.hid hl
  have HH := Lib.hid (And.intro hb (And.intro hr hm))
  clear hl hb hr
  unfold maxLen at hm
  go_enter Try.func17, Try.ntmps17
  go_wp2
  go_loopg [4, 5] L.length (fun g v i wr => ∃ (L1 L2 : List (List UInt8)) (at_ : Nat) (oo : Option Addr) (n oc : Nat) (es : List BEnt), L = L1 ++ L2 ∧ g = L2.length ∧ v = .slice oo n oc ∧ i = .int .i64 (at_ : Int) ∧ (frames L1).length = at_ ∧ es.map BEnt.bs = L1 ∧ Bodies wr oo n oc es [] ∧ (∀ a, oo = some a → w.heap.size ≤ a.block) ∧ Below w.heap.size w wr ∧
    ∀ e ∈ es, ∀ a, e.bo = some a → ao.map (·.block) = some a.block)
  case atStart => exact ⟨[], L, 0, none, 0, 0, [], rfl, rfl, rfl, rfl, rfl, rfl, ⟨Own.nil' _ _, by simp, by simp, by simp⟩, by simp, Below.refl _ _, by simp⟩
  case round =>
    obtain ⟨L1, L2, at_, oo, n, oc, es, hL, hg, rfl, rfl, hat, hes, hB, hoo, hbw, hap⟩ := hrel
    have hlen : N = at_ + ((frames L2).length + r.length) := by
      have h1 := congrArg List.length HH.out.2.1.is
      rw [HN.out, hL, frames_app, List.length_append, List.length_append, hat] at h1
      omega
    have hdr : b.drop at_ = frames L2 ++ r := by
      rw [HH.out.2.1.is, hL, frames_app, List.append_assoc, ← hat]; simp
    have hn100 : n ≤ 200000 := by
      have h1 := hB.len
      have h2 : es.length = L1.length := by rw [← hes, List.length_map]
      have h3 : ∀ (M : List (List UInt8)), 8 * M.length ≤ (frames M).length := by
        intro M
        induction M with
        | nil => simp [frames]
        | cons x M ih => rw [frames_cons, List.length_append, frame_len, List.length_cons]; omega
      have h4 := h3 L1
      omega
    have HS := Lib.hid (And.intro hL (And.intro hat (And.intro hes (And.intro hB (And.intro hoo (And.intro hbw (And.intro (HH.out.1.below hbw) hap)))))))
    have hatN : at_ ≤ N := by omega
    have hati : (at_ : Int) ≤ (N : Int) := by omega
    have HLN := Lib.hid hlen
    clear hL hat hes hB hoo hbw hap
    cases L2 with
    | nil =>
      have hrr : b.drop at_ = r := by rw [hdr]; rfl
      have HR := Lib.hid (And.intro hrr (show r.length = N - at_ by have h1 := HLN.out; simp [frames] at h1; omega))
      have HLL := Lib.hid (show L1 = L by have := HS.out.1; simpa using this.symm)
      have HRL := Lib.hid (And.intro (show N - at_ ≤ 1000000 by omega) (And.intro (show N - at_ ≤ c - at_ by omega) (show c - at_ ≤ maxLen by unfold maxLen; omega)))
      clear hdr hlen
      by_cases hc : c = at_
      · have hz : r = [] := by have := HR.out.2; exact List.eq_nil_of_length_eq_zero (by omega)
        have HZ := Lib.hid (And.intro (show Bts wr ao r by rw [hz]; exact Bts.nil _ _) (And.intro (show N - at_ ≤ 0 by omega) (show 0 ≤ maxLen by unfold maxLen; omega)))
        clear hz
        go_wp2_with (go_at_call 25; (with_reducible refine (refunframe_miss ao (N - at_) 0 r _ HR.out.2 HRL.out.1 HZ.out.1 HZ.out.2.1 HZ.out.2.2 HH.out.2.1.rest).mono ?_); rintro e2 w2 ⟨v1, v2, rr, rfl, hw2, hr0⟩; have H2 := Lib.hid hw2; clear hw2)
        go_ret2
        exact ⟨oo, n, oc, es, by rw [← HLL.out, HS.out.2.1]; rfl, HS.out.2.2.2.2.2.1.trans (H2.out.mono HS.out.2.2.2.2.2.1.size), HS.out.2.2.2.1.stays H2.out, by rw [HS.out.2.2.1, HLL.out], HS.out.2.2.2.2.1, HS.out.2.2.2.2.2.2.2⟩
      · have HB2 := Lib.hid (show Bts wr (ao.map (fun x => x.add at_)) r by have h1 := HS.out.2.2.2.2.2.2.1.drop' at_; rwa [HR.out.1] at h1)
        go_wp2_with (go_at_call 25; (with_reducible refine (refunframe_miss (ao.map (fun x => x.add at_)) (N - at_) (c - at_) r _ HR.out.2 HRL.out.1 HB2.out HRL.out.2.1 HRL.out.2.2 HH.out.2.1.rest).mono ?_); rintro e2 w2 ⟨v1, v2, rr, rfl, hw2, hr0⟩; have H2 := Lib.hid hw2; clear hw2)
        go_ret2
        exact ⟨oo, n, oc, es, by rw [← HLL.out, HS.out.2.1]; rfl, HS.out.2.2.2.2.2.1.trans (H2.out.mono HS.out.2.2.2.2.2.1.size), HS.out.2.2.2.1.stays H2.out, by rw [HS.out.2.2.1, HLL.out], HS.out.2.2.2.2.1, HS.out.2.2.2.2.2.2.2⟩
    | cons x L2 =>
      have hx4 : x.length ≤ 4096 := HH.out.2.1.short x (by rw [HS.out.1]; simp)
      have hfl := frame_len x
      have hc : ¬ c = at_ := by
        intro e
        have h1 := HLN.out
        rw [frames_cons, List.length_append, hfl] at h1
        omega
      have hdx : b.drop at_ = frame x ++ (frames L2 ++ r) := by rw [hdr, frames_cons, List.append_assoc]
      have HB2 := Lib.hid (show Bts wr (ao.map (fun x => x.add at_)) (frame x ++ (frames L2 ++ r)) by have h1 := HS.out.2.2.2.2.2.2.1.drop' at_; rwa [hdx] at h1)
      obtain ⟨R, hR⟩ : ∃ R, (frames L2 ++ r).length = R := ⟨_, rfl⟩
      have hlx : N = at_ + (x.length + 8 + R) := by
        have h1 := HLN.out
        rw [frames_cons, List.length_append, hfl] at h1
        rw [List.length_append] at hR
        omega
      have HX := Lib.hid (And.intro (show (frame x ++ (frames L2 ++ r)).length = N - at_ by rw [List.length_append, hfl, hR]; omega) (And.intro hR (show N - at_ ≤ c - at_ by omega)))
      have HXM := Lib.hid (show c - at_ ≤ maxLen by unfold maxLen; omega)
      have hNa : N - at_ ≤ 1000000 := by omega
      have hRN : R ≤ N := by omega
      have hRi : (R : Int) ≤ (N : Int) := by omega
      have HNR := Lib.hid (show ((N : Int) - (R : Int)) = ((at_ + (x.length + 8) : Nat) : Int) by omega)
      clear hdr hlen hfl hdx hR hlx
      go_wp2_with fail
      (with_reducible refine (refunframe_hit (ao.map (fun x => x.add at_)) (N - at_) (c - at_) R x (frames L2 ++ r) _ HX.out.1 hx4 hNa HB2.out HX.out.2.2 HXM.out HX.out.2.1).mono ?_)
      rintro e2 w2 ⟨xo, xc, yo, yc, rfl, hw2, o1, hx1⟩
      rw [map_block] at hx1
      have hr2 := Row.alloc w2 #[.slice xo x.length xc] 31 (0, 0)
      have HO2 := Lib.hid (And.intro ((HS.out.2.2.2.1.stays hw2).own.keep ((Chg.refl (fun _ => False) w2).alloc (.cells #[.slice xo x.length xc] 31)) (fun _ _ h => h)) hr2)
      have H2 := Lib.hid (And.intro hw2 (And.intro o1 hx1))
      clear hw2 o1 hx1 hr2
      go_wp2_with (at_builtin; refine wpList_append' rfl (.tmp 21) (.tmp 23) el_bs rfl rfl rfl HO2.out.1 (m := 1) (news := [(BEnt.mk x xo xc).cell]) rfl HO2.out.2 (one_ent [BEnt.mk x xo xc]) (by unfold maxLen; omega) (by omega) ?_; intro zo zc w3 hx hch _ hx2; have H3 := Lib.hid (And.intro hx (And.intro hch hx2)); clear hx hch hx2)
      go_roundg (gk - 1)
      case measure => simp only [List.length_cons] at hg; omega
      case rel =>
        obtain ⟨hL, hat, hes, hB, hoo, hbw, hbt, hap⟩ := HS.out
        obtain ⟨hx3, hch3, hx23⟩ := H3.out
        have hB2 := (hB.stays H2.out.1)
        have hS3 := Bodies.snoc (e := ⟨x, xo, xc⟩) hB2 (by simp) H2.out.2.1 (fun hz a ha => ⟨by simp, fun b' hb' q => by
          have h1 := hoo b' hb'
          have h2 := H2.out.2.2 a ha
          cases ao with
          | none => cases h2
          | some a0 =>
            simp at h2
            have hz0 : b ≠ [] := by
              rintro rfl
              have := HN.out
              have := HX.out.1
              rw [List.length_append, frame_len] at this
              simp at *
              omega
            have h3 := bts_lt HH.out.1 hz0 a0 rfl
            omega⟩) hx3 hch3 hx23
        have hb2 : Below w.heap.size w (w2.alloc (.cells #[.slice xo x.length xc] 31)) := (hbw.trans (H2.out.1.mono hbw.size)).alloc (Nat.le_trans hbw.size H2.out.1.size) _
        refine ⟨L1 ++ [x], L2, at_ + (x.length + 8), zo, n + 1, zc, es ++ [⟨x, xo, xc⟩], by rw [hL]; simp, by simp only [List.length_cons] at hg; omega, rfl, ?_, by rw [frames_app, frames_one, List.length_append, frame_len, hat], by rw [List.map_append, hes]; rfl, hS3, fun a ha => ?_, hb2.trans (hch3.below hb2.size ?_), fun e he a ha => ?_⟩
        · have := HNR.out; rw [← this]
        · rcases hx23 a ha with h | h
          · exact hoo a h
          · exact Nat.le_trans hb2.size h
        · rintro i ⟨a, ha, e⟩
          exact e ▸ hoo a ha
        · rcases List.mem_append.1 he with he | he
          · exact hap e he a ha
          · rw [List.mem_singleton] at he; subst he; exact H2.out.2.2 a ha
end Go.Proofs.Ytggidllaodloiaa
