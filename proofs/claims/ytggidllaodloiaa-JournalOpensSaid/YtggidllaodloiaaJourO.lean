/-
  LAYER 5: journal.Open.
-/
import Derived.Test.YtggidllaodloiaaJour
import Derived.Outline
namespace Go.Proofs.Ytggidllaodloiaa
open Go Go.RowKit

/-- What Open gives. -/
def Opened (w : World) (p : Nat) (F : List Nat) (room : Nat) (L : List (List UInt8)) (e : Ending) (w' : World) : Prop :=
  ∃ j oo n cap es F', e = .returned (.tuple #[.pointer (some ⟨j, 0, none⟩), .slice oo n cap, .int .i64 0]) ∧ JourAt w' j p ⟨room, (frames L).length, frames L⟩ F' ∧ Bodies w' oo n cap es F' ∧ es.map BEnt.bs = L ∧
    Chg (· ∈ F) w w' ∧ Grew w F F' ∧ w.heap.size ≤ j ∧ (∀ a, oo = some a → w.heap.size ≤ a.block)
theorem open_nil (w : World) : Calls Try.prog 10 #[.pointer none] w fun e w' => e = .returned (.tuple #[.pointer none, .slice none 0 0, .int .i64 1]) ∧ w = w' := by
  go_enter Try.func10, Try.ntmps10
  go_wp2
  go_ret3
  exact ⟨rfl, rfl⟩
/-- The end of Open: what is behind the records is cut off; all is sure. -/
theorem open_end {w wr w2 w3 : World} {p : Nat} {d : Dsk} {F F2 : List Nat} {L : List (List UInt8)} {oo : Option Addr} {n cap : Nat} {es : List BEnt} (hd : DiskAt 50 w p d F) (hb : Below w.heap.size w wr)
    (hB : Bodies wr oo n cap es F) (hes : es.map BEnt.bs = L) (hoo : ∀ a, oo = some a → w.heap.size ≤ a.block) (h1 : DiskAt 50 w2 p ⟨d.room, min d.sure (frames L).length, frames L⟩ F2) (hc : Chg (· ∈ F) wr w2) (hg : Grew wr F F2)
    (h3 : DiskDid w2 p ⟨d.room, (frames L).length, frames L⟩ F2 w3) : Opened w p F d.room L (.returned (.tuple #[.pointer (some ⟨w3.heap.size, 0, none⟩), .slice oo n cap, .int .i64 0])) (w3.alloc (.cells #[.pointer (some ⟨p, 0, none⟩)] 55)) := by
  obtain ⟨F3, h31, h32, h33⟩ := h3
  have hA : Below w3.heap.size w3 (w3.alloc (.cells #[.pointer (some ⟨p, 0, none⟩)] 55)) := (Below.refl _ _).alloc (Nat.le_refl _) _
  have hC := Chg.of_below hA (fun _ => False)
  have hsz : w.heap.size ≤ w3.heap.size := Nat.le_trans hb.size (Nat.le_trans hc.size h32.size)
  refine ⟨_, oo, n, cap, es, F3, rfl, ⟨h31.keep hC (fun _ _ h => h), heap_top _ _, fun hk => Nat.lt_irrefl _ (h31.lt _ hk)⟩, ((hB.other hc hg).other h32 h33).stays hA, hes, ?_, ?_, hsz, hoo⟩
  · refine ((Chg.of_below hb (· ∈ F)).trans hc (fun _ _ h => h)).trans (S' := (· ∈ F2)) ?_ (fun i hi hk => (hg i hk).elim id (fun h => by have := hb.size; omega))
    exact h32.trans (S' := fun _ => False) (hC) (fun _ _ h => h.elim)
  · intro k hk
    rcases h33 k hk with h | h
    · rcases hg k h with h | h
      · exact .inl h
      · exact .inr (Nat.le_trans hb.size h)
    · exact .inr (Nat.le_trans (Nat.le_trans hb.size hc.size) h)
theorem ent_new {w wr w1 : World} {F : List Nat} {oo xo : Option Addr} {n oc xc : Nat} {es : List BEnt} {x : List UInt8} (hd : ∀ k ∈ F, k < w.heap.size) (hb : Below w.heap.size w wr) (hB : Bodies wr oo n oc es F) (hw1 : Below wr.heap.size wr w1) (hx : ∀ a, xo = some a → wr.heap.size ≤ a.block) :
    x ≠ [] → ∀ a, (BEnt.mk x xo xc).bo = some a → a.block ∉ F ∧ ∀ b, oo = some b → a.block ≠ b.block := by
  intro _ a ha
  have h1 := hx a ha
  refine ⟨fun hk => ?_, fun b hb' e => ?_⟩
  · have := hd _ hk; have := hb.size; omega
  · have := (hB.own.at_ b hb').2.1; omega
set_option maxHeartbeats 4000000 in
set_option maxRecDepth 100000 in
theorem open_any (p : Nat) (d : Dsk) (F : List Nat) (L : List (List UInt8)) (r : List UInt8) (w : World) (h : DiskAt 50 w p d F) (hr : Recs d.b L r) (hm : d.b.length ≤ 1000000) :
    Calls Try.prog 10 #[.pointer (some ⟨p, 0, none⟩)] w (Opened w p F d.room L) := by
  have HH := Lib.hid (And.intro h (And.intro hr hm))
  have hN : d.b.length ≤ 1000000 := hm
  clear h hr hm
  obtain ⟨N, hNe⟩ : ∃ N, d.b.length = N := ⟨_, rfl⟩
  have HN := Lib.hid hNe
  rw [hNe] at hN
  clear hNe
  go_enter Try.func10, Try.ntmps10
  go_wp2_with (go_at_call 18; (with_reducible refine (bytes_any p d F _ HH.out.1).mono ?_); rintro e1 w1 ⟨bo, bc, rfl, hw1, ho, _⟩; rw [HN.out] at ho ⊢; have hbc := ho.le; have hbm := ho.max; have H1 := Lib.hid (And.intro hw1 ho); clear hw1 ho)
  unfold maxLen at hbm
  go_loopg [5, 7] L.length (fun g v i wr => ∃ (L1 L2 : List (List UInt8)) (at_ : Nat) (oo : Option Addr) (n oc : Nat) (es : List BEnt), L = L1 ++ L2 ∧ g = L2.length ∧ v = .slice oo n oc ∧ i = .int .i64 (at_ : Int) ∧ (frames L1).length = at_ ∧ es.map BEnt.bs = L1 ∧ Bodies wr oo n oc es F ∧ (∀ a, oo = some a → w.heap.size ≤ a.block) ∧ Below w.heap.size w wr ∧ Bts wr bo d.b ∧ (d.b ≠ [] → ∀ a, bo = some a → ∀ b, oo = some b → b.block ≠ a.block))
  case atStart => exact ⟨[], L, 0, none, 0, 0, [], rfl, rfl, rfl, rfl, rfl, rfl, ⟨Own.nil' _ _, by simp, by simp, by simp⟩, by simp, H1.out.1, H1.out.2.bts, by simp⟩
  case round =>
    obtain ⟨L1, L2, at_, oo, n, oc, es, hL, hg, rfl, rfl, hat, hes, hB, hoo, hbw, hbt, hap⟩ := hrel
    have hlen : N = at_ + ((frames L2).length + r.length) := by
      have h1 := congrArg List.length HH.out.2.1.is
      rw [HN.out, hL, frames_app, List.length_append, List.length_append, hat] at h1
      omega
    have hdr : d.b.drop at_ = frames L2 ++ r := by
      rw [HH.out.2.1.is, hL, frames_app, List.append_assoc, ← hat]; simp
    have hn100 : n ≤ 200000 := by
      have h1 := hB.len
      have h2 : es.length = L1.length := by rw [← hes, List.length_map]
      have h3 : ∀ (M : List (List UInt8)), 8 * M.length ≤ (frames M).length := by
        intro M
        induction M with
        | nil => simp [frames]
        | cons x M ih => rw [frames_cons, List.length_append, frame_len, List.length_cons]; omega
      have h4 := h3 L1
      omega
    have HS := Lib.hid (And.intro hL (And.intro hat (And.intro hes (And.intro hB (And.intro hoo (And.intro hbw (And.intro hbt hap)))))))
    have hatN : at_ ≤ N := by omega
    have hati : (at_ : Int) ≤ (N : Int) := by omega
    have HLN := Lib.hid hlen
    clear hL hat hes hB hoo hbw hbt hap
    cases L2 with
    | nil =>
      have hrr : d.b.drop at_ = r := by rw [hdr]; rfl
      have HR := Lib.hid (And.intro hrr (show r.length = N - at_ by have h1 := HLN.out; simp [frames] at h1; omega))
      have HC := Lib.hid (show d.cut (at_ : Int) = (0, ⟨d.room, min d.sure (frames L).length, frames L⟩) by
        have h1 : L1 = L := by have := HS.out.1; simpa using this.symm
        rw [Dsk.cut, if_neg (by rw [HN.out]; omega), Int.toNat_natCast, ← h1, HS.out.2.1]
        congr 2
        rw [HH.out.2.1.is, ← h1, ← HS.out.2.1]
        simp)
      have HLL := Lib.hid (show L1 = L by have := HS.out.1; simpa using this.symm)
      have hcode : ((unf r).2.2 : Int) ≠ 0 := by have := HH.out.2.1.rest; omega
      have hcb : (((unf r).2.2 : Int) != 0) = true := by simpa using hcode
      have hcd : (((unf r).2.2 : Int) == 0) = false := by simpa using hcode
      have HRL := Lib.hid (And.intro (show N - at_ ≤ 1000000 by omega) (And.intro (show N - at_ ≤ bc - at_ by omega) (show bc - at_ ≤ maxLen by unfold maxLen; omega)))
      clear hdr hlen hcode
      by_cases hc : bc = at_
      · have hz : r = [] := by have := HR.out.2; exact List.eq_nil_of_length_eq_zero (by omega)
        have HZ := Lib.hid (And.intro (show Bts wr bo r by rw [hz]; exact Bts.nil _ _) (And.intro (show N - at_ ≤ 0 by omega) (show 0 ≤ maxLen by unfold maxLen; omega)))
        clear hz
        go_wp2_with (first
          | (go_at_call 21; (with_reducible refine (unframe_all bo (N - at_) 0 r _ HR.out.2 HRL.out.1 HZ.out.1 HZ.out.2.1 HZ.out.2.2).mono ?_); rintro e2 w2 ⟨xo, xc, yo, yc, rfl, hw2, _, _⟩; have H2 := Lib.hid hw2; clear hw2)
          | (go_at_call 22; (with_reducible refine (cut_any p d F _ _ (HH.out.1.keep (Chg.of_below (HS.out.2.2.2.2.2.1.trans (H2.out.mono HS.out.2.2.2.2.2.1.size)) (fun _ => False)) (fun _ _ h => h))).mono ?_); rintro e3 w3 ⟨rfl, F3, g1, g2, g3⟩; rw [HC.out] at g1; have H3 := Lib.hid (And.intro g1 (And.intro g2 g3)); clear g1 g2 g3)
          | (go_at_call 16; (with_reducible refine (sync_any p _ F3 _ H3.out.1).mono ?_); rintro e4 w4 ⟨rfl, hd⟩; have H4 := Lib.hid hd; clear hd))
        go_ret3
        exact open_end HH.out.1 (HS.out.2.2.2.2.2.1.trans (H2.out.mono HS.out.2.2.2.2.2.1.size)) (HS.out.2.2.2.1.stays H2.out) (by rw [HS.out.2.2.1, HLL.out]) HS.out.2.2.2.2.1 H3.out.1 H3.out.2.1 H3.out.2.2 H4.out
      · have HB2 := Lib.hid (show Bts wr (bo.map (fun x => x.add at_)) r by have h1 := HS.out.2.2.2.2.2.2.1.drop' at_; rwa [HR.out.1] at h1)
        go_wp2_with (first
          | (go_at_call 21; (with_reducible refine (unframe_all (bo.map (fun x => x.add at_)) (N - at_) (bc - at_) r _ HR.out.2 HRL.out.1 HB2.out HRL.out.2.1 HRL.out.2.2).mono ?_); rintro e2 w2 ⟨xo, xc, yo, yc, rfl, hw2, _, _⟩; have H2 := Lib.hid hw2; clear hw2)
          | (go_at_call 22; (with_reducible refine (cut_any p d F _ _ (HH.out.1.keep (Chg.of_below (HS.out.2.2.2.2.2.1.trans (H2.out.mono HS.out.2.2.2.2.2.1.size)) (fun _ => False)) (fun _ _ h => h))).mono ?_); rintro e3 w3 ⟨rfl, F3, g1, g2, g3⟩; rw [HC.out] at g1; have H3 := Lib.hid (And.intro g1 (And.intro g2 g3)); clear g1 g2 g3)
          | (go_at_call 16; (with_reducible refine (sync_any p _ F3 _ H3.out.1).mono ?_); rintro e4 w4 ⟨rfl, hd⟩; have H4 := Lib.hid hd; clear hd))
        go_ret3
        exact open_end HH.out.1 (HS.out.2.2.2.2.2.1.trans (H2.out.mono HS.out.2.2.2.2.2.1.size)) (HS.out.2.2.2.1.stays H2.out) (by rw [HS.out.2.2.1, HLL.out]) HS.out.2.2.2.2.1 H3.out.1 H3.out.2.1 H3.out.2.2 H4.out
    | cons x L2 =>
      have hx4 : x.length ≤ 4096 := HH.out.2.1.short x (by rw [HS.out.1]; simp)
      have hfl := frame_len x
      have hc : ¬ bc = at_ := by
        intro e
        have h1 := HLN.out
        rw [frames_cons, List.length_append, hfl] at h1
        omega
      have hdx : d.b.drop at_ = frame x ++ (frames L2 ++ r) := by rw [hdr, frames_cons, List.append_assoc]
      have HB2 := Lib.hid (show Bts wr (bo.map (fun x => x.add at_)) (frame x ++ (frames L2 ++ r)) by have h1 := HS.out.2.2.2.2.2.2.1.drop' at_; rwa [hdx] at h1)
      obtain ⟨R, hR⟩ : ∃ R, (frames L2 ++ r).length = R := ⟨_, rfl⟩
      have hlx : N = at_ + (x.length + 8 + R) := by
        have h1 := HLN.out
        rw [frames_cons, List.length_append, hfl] at h1
        rw [List.length_append] at hR
        omega
      have HX := Lib.hid (And.intro (show (frame x ++ (frames L2 ++ r)).length = N - at_ by rw [List.length_append, hfl, hR]; omega) (And.intro hR (show N - at_ ≤ bc - at_ by omega)))
      have HXM := Lib.hid (show bc - at_ ≤ maxLen by unfold maxLen; omega)
      have hNa : N - at_ ≤ 1000000 := by omega
      have hRN : R ≤ N := by omega
      have hRi : (R : Int) ≤ (N : Int) := by omega
      have HNR := Lib.hid (show ((N : Int) - (R : Int)) = ((at_ + (x.length + 8) : Nat) : Int) by omega)
      clear hdr hlen hfl hdx hR hlx
      go_wp2_with fail
      (with_reducible refine (unframe_any (bo.map (fun x => x.add at_)) (N - at_) (bc - at_) x (frames L2 ++ r) _ HX.out.1 hx4 hNa HB2.out HX.out.2.2 HXM.out).mono ?_)
      rintro e2 w2 ⟨xo, xc, yo, yc, rfl, hw2, o1, _, hx1, _⟩
      rw [HX.out.2.1]
      have hr2 := Row.alloc w2 #[.slice xo x.length xc] 31 (0, 0)
      have HO2 := Lib.hid (And.intro ((HS.out.2.2.2.1.stays hw2).own.keep ((Chg.refl (fun _ => False) w2).alloc (.cells #[.slice xo x.length xc] 31)) (fun _ _ h => h)) hr2)
      have H2 := Lib.hid (And.intro hw2 (And.intro o1 hx1))
      clear hw2 o1 hx1 hr2
      go_wp2_with (at_builtin; refine wpList_append' rfl (.tmp 25) (.tmp 27) el_bs rfl rfl rfl HO2.out.1 (m := 1) (news := [(BEnt.mk x xo xc).cell]) rfl HO2.out.2 (one_ent [BEnt.mk x xo xc]) (by unfold maxLen; omega) (by omega) ?_; intro zo zc w3 hx hch _ hx2; have H3 := Lib.hid (And.intro hx (And.intro hch hx2)); clear hx hch hx2)
      go_roundg (gk - 1)
      case measure => simp only [List.length_cons] at hg; omega
      case rel =>
        obtain ⟨hL, hat, hes, hB, hoo, hbw, hbt, hap⟩ := HS.out
        obtain ⟨hx3, hch3, hx23⟩ := H3.out
        have hF := HH.out.1.lt
        have hBF : ∀ k ∈ F, k < w2.heap.size := fun k hk => Nat.lt_of_lt_of_le (hF k hk) (Nat.le_trans hbw.size H2.out.1.size)
        have hB2 := (hB.stays H2.out.1)
        have hS3 := Bodies.snoc (e := ⟨x, xo, xc⟩) hB2 hBF H2.out.2.1.bts (ent_new hF hbw hB H2.out.1 H2.out.2.2) hx3 hch3 hx23
        have hb2 : Below w.heap.size w (w2.alloc (.cells #[.slice xo x.length xc] 31)) := (hbw.trans (H2.out.1.mono hbw.size)).alloc (Nat.le_trans hbw.size H2.out.1.size) _
        refine ⟨L1 ++ [x], L2, at_ + (x.length + 8), zo, n + 1, zc, es ++ [⟨x, xo, xc⟩], by rw [hL]; simp, by simp only [List.length_cons] at hg; omega, rfl, ?_, by rw [frames_app, frames_one, List.length_append, frame_len, hat], by rw [List.map_append, hes]; rfl, hS3, fun a ha => ?_, hb2.trans (hch3.below hb2.size ?_), bts_keep ((hbt.below H2.out.1).below ((Below.refl _ _).alloc (Nat.le_refl _) _)) hch3 (fun hz a ha ⟨b, hb, e⟩ => hap hz a ha b hb e), fun hz a ha b hb e => ?_⟩
        · have := HNR.out; rw [← this]
        · rcases hx23 a ha with h | h
          · exact hoo a h
          · exact Nat.le_trans hb2.size h
        · rintro i ⟨a, ha, e⟩
          exact e ▸ hoo a ha
        · rcases hx23 b hb with h | h
          · exact hap hz a ha b h e
          · have := bts_lt (hbt.below H2.out.1) hz a ha
            rw [size_alloc] at h
            omega
end Go.Proofs.Ytggidllaodloiaa
