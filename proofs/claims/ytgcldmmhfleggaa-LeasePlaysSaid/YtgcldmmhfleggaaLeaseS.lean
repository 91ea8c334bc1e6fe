/-
  LAYER 7: the document's book: Close, Open.
-/
import Derived.Test.YtgcldmmhfleggaaLeaseZ
namespace Go.Proofs.Ytgcldmmhfleggaa
open Go Go.RowKit

theorem alloc_cell {w : World} {a : Addr} {v : Value} {o : Obj} (h : w.cell? a = some v) : (w.alloc o).cell? a = some v := by
  rw [World.cell?_alloc_some _ _ _ (by rw [h]; rfl)]; exact h
theorem close_none (p last id : Nat) (l : List Sess) (F : List Nat) (w : World) (h : BookAt w p last l F) (hl : l.length ≤ 1000000) (hno : ∀ e ∈ l, e.id ≠ id) :
    Calls Try.prog 16 #[.pointer (some ⟨p, 0, none⟩), .int .u64 (id : Int)] w fun r w' => r = .returned (.int .i64 11) ∧ Below w.heap.size w w' := by
  have HF := Lib.hid (find_none p last id l F w h hl hno)
  clear h hno
  go_enter Try.func16, Try.ntmps16
  go_wp2_with (go_at_call 26; (with_reducible refine HF.out.mono ?_); rintro r w1 ⟨rfl, hb⟩; have H1 := Lib.hid hb; clear hb)
  go_ret
  exact ⟨rfl, H1.out⟩
theorem rclose_none (p last id : Nat) (l : List Sess) (F : List Nat) (w : World) (h : RBookAt w p last l F) (hl : l.length ≤ 1000000) (hno : ∀ e ∈ l, e.id ≠ id) :
    Calls Try.prog 20 #[.pointer (some ⟨p, 0, none⟩), .int .u64 (id : Int)] w fun r w' => r = .returned (.int .i64 11) ∧ w = w' := by
  have HF := Lib.hid (rat_none p last id l F w h hl hno)
  clear h hno
  go_enter Try.func20, Try.ntmps20
  go_wp2_with (go_at_call 31; (with_reducible refine HF.out.mono ?_); rintro r w1 ⟨rfl, rfl⟩)
  go_ret
  exact ⟨rfl, rfl⟩
set_option maxHeartbeats 4000000 in
set_option maxRecDepth 100000 in
theorem rclose_some (p last id i : Nat) (e : Sess) (l : List Sess) (F : List Nat) (w : World) (h : RBookAt w p last l F) (hl : l.length ≤ 4096) (he : l[i]? = some e) (hid : e.id = id) (hno : ∀ e ∈ l.take i, e.id ≠ id) :
    Calls Try.prog 20 #[.pointer (some ⟨p, 0, none⟩), .int .u64 (id : Int)] w fun r w' => r = .returned (.int .i64 0) ∧ RWrote w w' p last (l.eraseIdx i) F := by
  have HF := Lib.hid (rat_some p last id i e l F w h (by omega) he hid hno)
  obtain ⟨lo, n, cap, h1, h2, h3, hF⟩ := h
  have hn := fl_own_len el_e h2
  obtain ⟨b, off, rfl, _⟩ := el_at h2 he
  have hin : i < n := by rw [← hn]; exact (List.getElem?_eq_some_iff.1 he).1
  have hcap := h2.le
  have hmax := h2.max
  have hn4 : n ≤ 4096 := by omega
  obtain ⟨z0, z1, z2⟩ := cells2 h1
  have d1 : w.drew.cell? ⟨p, 1, none⟩ = some (.slice (some ⟨b, off, none⟩) n cap) := z1
  have b1 : (w.alloc (.cells #[] 48)).cell? ⟨p, 1, none⟩ = some (.slice (some ⟨b, off, none⟩) n cap) := alloc_cell z1
  have b1' : (w.alloc (.cells #[] 48)).drew.cell? ⟨p, 1, none⟩ = some (.slice (some ⟨b, off, none⟩) n cap) := b1
  have HO := Lib.hid (show Row w (some ⟨b, off, none⟩) ((l.take i).flatMap Sess.cells) by rw [← fl_take el_e]; exact h2.row.take _)
  obtain ⟨A, hA⟩ : ∃ A : Option Addr, (if cap = i + 1 then some (⟨b, off, none⟩ : Addr) else some ⟨b, off + (i + 1) * 3, none⟩) = A := ⟨_, rfl⟩
  have HR := Lib.hid (show Row w A _ by rw [← hA]; exact fl_row el_e h2 hn (i + 1))
  have HL := Lib.hid (And.intro (show ((l.take i).flatMap Sess.cells).length = i * 3 by rw [fl_len el_e, List.length_take]; congr 1; omega) (show ((l.drop (i + 1)).flatMap Sess.cells).length = (n - (i + 1)) * 3 by rw [fl_len el_e, List.length_drop, hn]))
  have HE := Lib.hid (show (l.take i).flatMap Sess.cells ++ (l.drop (i + 1)).flatMap Sess.cells = (l.eraseIdx i).flatMap Sess.cells by rw [← List.flatMap_append, List.eraseIdx_eq_take_drop_succ])
  have HX := Lib.hid (And.intro h1 (And.intro h3 hF))
  have hpl := heap_lt h1
  clear h1 h2 h3 hF he hid hno hn hl
  have hic : i ≤ cap := by omega
  have hic' : (i : Int) ≤ (cap : Int) := by omega
  have hic2 : (i : Int) ≤ (n : Int) := by omega
  have hp0 : (0 : Int) ≤ (i : Int) + 1 := by omega
  have hp1 : (i : Int) + 1 ≤ (n : Int) := by omega
  have hp2 : ((i : Int) + 1).toNat = i + 1 := by omega
  have hp3 : (n : Int) ≤ (cap : Int) := by omega
  have hw := IntWalk.i64_in ((i : Int) + 1) (by omega)
  have hz1 : 0 + i ≤ maxLen := by unfold maxLen; omega
  have hz2 : (0 + i) * 24 ≤ 140737488355328 := by omega
  have hz3 : i + (n - (i + 1)) ≤ maxLen := by unfold maxLen; omega
  have hz4 : (i + (n - (i + 1))) * 24 ≤ 140737488355328 := by omega
  have HZ := Lib.hid (And.intro hz1 (And.intro hz2 (And.intro hz3 hz4)))
  clear hz1 hz2 hz3 hz4 z0 z1
  go_enter Try.func20, Try.ntmps20
  go_wp2_with (go_at_call 31; (with_reducible refine HF.out.mono ?_); rintro r w1 ⟨rfl, rfl⟩)
  go_region_law (first
    | (refine step_append' rfl (.tmp 12) (.tmp 18) el_s rfl (c := cap) ?hs ?hx (Own.alloc0 w 3 _ _).drew HL.out.1 (HO.out.below ((Below.refl _ w).alloc (Nat.le_refl _) _)).drew (fl_one el_e _) HZ.out.1 HZ.out.2.1 ?_; (case hs => simp [Act.eval, Act.put]); (case hx => simp [Act.eval, Act.put]); simp only [Nat.zero_add, List.nil_append]; intro xo xc w2 hx hch _ hx2; have hb2 := chg_new (Below.refl _ _) hch.undrew; have hf2 := new_blk (Below.refl _ w) hx2; have hpp := (Chg.of_below hb2 (fun _ => False)).heap HX.out.1 (fun h => h); obtain ⟨y0, y1, y2⟩ := cells2 hpp; have H2 := Lib.hid (And.intro hx (And.intro hb2 (And.intro hf2 hpp))); clear hx hch hx2 hb2 hf2 hpp)
    | (refine step_append' rfl (.tmp 19) (.tmp 26) el_s rfl (c := cap - (i + 1)) ?hs ?hx H2.out.1 HL.out.2 (HR.out.below H2.out.2.1) (fl_one el_e _) HZ.out.2.2.1 HZ.out.2.2.2 ?_; (case hs => simp [Act.eval, Act.put]); (case hx => simp [Act.eval, Act.put]); rw [HE.out]; intro yo yc w3 hx hch _ hx2; have hb3 := H2.out.2.1.trans (hch.below H2.out.2.1.size (fun k ⟨a, ha, e⟩ => e ▸ H2.out.2.2.1 a ha)); have hpp := (Chg.of_below hb3 (fun _ => False)).heap HX.out.1 (fun h => h); obtain ⟨v0, v1, v2⟩ := cells2 hpp; have H3 := Lib.hid (And.intro hx (And.intro hb3 (And.intro (fun a ha => (hx2 a ha).elim (H2.out.2.2.1 a) (fun h => Nat.le_trans H2.out.2.1.size h)) hpp))); clear hx hch hx2 hb3 hpp))
  all_goals go_wp2
  all_goals (
    go_ret
    exact ⟨rfl, rend (by rw [HX.out.2.2]; simp) (Chg.refl _ w) H3.out.2.2.2 H3.out.2.1 H3.out.1 H3.out.2.2.1 hpl⟩)
end Go.Proofs.Ytgcldmmhfleggaa
