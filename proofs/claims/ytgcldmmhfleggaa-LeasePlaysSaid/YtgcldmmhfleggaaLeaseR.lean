/-
  LAYER 7: All, Close.
-/
import Derived.Test.YtgcldmmhfleggaaLeaseN
namespace Go.Proofs.Ytgcldmmhfleggaa
open Go Go.RowKit

set_option maxHeartbeats 1000000 in
set_option maxRecDepth 100000 in
/-- slices.Delete of one session. -/
theorem delete_any (b off n n1 cap : Nat) (es : List Sess) (I J : Int) (i : Nat) (w : World) (h : Own w 3 (some ⟨b, off, none⟩) n cap (es.flatMap Sess.cells)) (hes : es.length = n) (hn : n ≤ 4096) (hn1 : n = n1 + 1) (hI : I = (i : Int)) (hJ : J = ((i + 1 : Nat) : Int)) (hi : i < n) :
    Calls Try.prog 29 #[.slice (some ⟨b, off, none⟩) n cap, .int .i64 I, .int .i64 J] w fun e w' => e = .returned (.slice (some ⟨b, off, none⟩) n1 cap) ∧ Own w' 3 (some ⟨b, off, none⟩) n1 cap ((es.eraseIdx i).flatMap Sess.cells) ∧ Chg (· = b) w w' := by
  subst hI; subst hJ
  have hcap := h.le
  have hmax := h.max
  have HO := Lib.hid (show Own w.drew 3 (some ⟨b, off, none⟩) i cap ((es.take i).flatMap Sess.cells) by rw [← fl_take el_e]; exact (h.cut (by omega) (by omega) (Nat.le_refl _)).drew)
  obtain ⟨A, hA⟩ : ∃ A : Option Addr, (if cap = i + 1 then some (⟨b, off, none⟩ : Addr) else some ⟨b, off + (i + 1) * 3, none⟩) = A := ⟨_, rfl⟩
  have HR := Lib.hid (show Row w.drew A _ by rw [← hA]; exact (fl_row el_e h hes (i + 1)).drew)
  have HL := Lib.hid (show ((es.drop (i + 1)).flatMap Sess.cells).length = (n - (i + 1)) * 3 by rw [fl_len el_e, List.length_drop, hes])
  have HN := Lib.hid (show i + (n - (i + 1)) = n1 by omega)
  have HE := Lib.hid (show (es.take i).flatMap Sess.cells ++ (es.drop (i + 1)).flatMap Sess.cells = (es.eraseIdx i).flatMap Sess.cells by rw [← List.flatMap_append, List.eraseIdx_eq_take_drop_succ])
  have HD := Lib.hid hn1
  clear h hes hn1
  have hic : i ≤ cap := by omega
  have hic' : (i : Int) ≤ (cap : Int) := by omega
  have hp0 : (0 : Int) ≤ (i : Int) + 1 := by omega
  have hp1 : (i : Int) + 1 ≤ (n : Int) := by omega
  have hp2 : ((i : Int) + 1).toNat = i + 1 := by omega
  have hp3 : (n : Int) ≤ (cap : Int) := by omega
  have hroom : i + (n - (i + 1)) ≤ cap := by omega
  have hbytes : (i + (n - (i + 1))) * 24 ≤ 140737488355328 := by omega
  go_enter Try.func29, Try.ntmps29
  go_wp2
  go_region_law (refine step_append_in rfl (.tmp 22) (.tmp 25) el_s rfl (c := cap - (i + 1)) ?hs ?hx HO.out HL.out HR.out (fl_one el_e _) hroom hbytes ?_; (case hs => simp [Act.eval, Act.put]); (case hx => simp [Act.eval, Act.put]); rw [HN.out, HE.out]; intro w2 hx hch; have H2 := Lib.hid (And.intro hx hch); clear hx hch)
  have g1 : (n1 : Int) ≤ (n : Int) := by have := HD.out; omega
  have g2 : ¬ cap = n1 := by have := HD.out; omega
  have g3 : n1 ≤ n := by have := HD.out; omega
  have g4 : 0 < n - n1 := by have := HD.out; omega
  have g5 : n1 + (n - n1) ≤ cap := by have := HD.out; omega
  go_wp2_with (refine wpList_clear' rfl (.tmp 31) el_s rfl rfl rfl H2.out.1 g4 g5 zero_one' ?_; intro w3 hx hch; have H3 := Lib.hid (And.intro hx hch); clear hx hch)
  all_goals (
    go_ret
    exact ⟨rfl, H3.out.1, ((Chg.refl (· = b) w).drew.trans H2.out.2 (by rintro i _ ⟨a, ha, e⟩; cases ha; exact e.symm)).trans H3.out.2 (fun _ _ h => h)⟩)
set_option maxHeartbeats 1000000 in
theorem close_some (p last id i : Nat) (e : Sess) (l : List Sess) (F : List Nat) (w : World) (h : BookAt w p last l F) (hl : l.length ≤ 4096) (he : l[i]? = some e) (hid : e.id = id) (hno : ∀ e ∈ l.take i, e.id ≠ id) :
    Calls Try.prog 16 #[.pointer (some ⟨p, 0, none⟩), .int .u64 (id : Int)] w fun r w' => r = .returned (.int .i64 0) ∧ Wrote w w' p last (l.eraseIdx i) F := by
  have HF := Lib.hid (find_some p last id i e l F w h (by omega) he hid hno)
  obtain ⟨lo, n, cap, h1, h2, h3, hF⟩ := h
  have hn := fl_own_len el_e h2
  obtain ⟨b, off, rfl, _⟩ := el_at h2 he
  have hin : i < n := by rw [← hn]; exact (List.getElem?_eq_some_iff.1 he).1
  obtain ⟨n1, hn1⟩ : ∃ n1, n = n1 + 1 := ⟨n - 1, by omega⟩
  have hii : ((i : Int)) < (n : Int) := by omega
  have hn4 : n ≤ 4096 := by omega
  have HD := Lib.hid (fun w1 (ho : Own w1 3 (some ⟨b, off, none⟩) n cap (l.flatMap Sess.cells)) => delete_any b off n n1 cap l (i : Int) ((i : Int) + 1) i w1 ho hn hn4 hn1 rfl (by omega) hin)
  have hpb : p ≠ b := fun e => h3 (mem_blk.2 ⟨_, rfl, e.symm⟩)
  have HX := Lib.hid (And.intro h1 (And.intro h2 (And.intro h3 (And.intro hF hpb))))
  clear h1 h2 h3 hF he hid hno hn hn1 hpb
  go_enter Try.func16, Try.ntmps16
  go_wp2_with (first
    | (go_at_call 26; (with_reducible refine HF.out.mono ?_); rintro r w1 ⟨rfl, hb⟩; have hC := Chg.of_below hb (fun _ => False); have hp1 := hC.heap HX.out.1 (fun h => h); obtain ⟨z0, z1, z2⟩ := cells2 hp1; have H1 := Lib.hid (And.intro hb (And.intro hp1 (HX.out.2.1.keep hC (fun _ _ h => h)))); clear hb hC hp1)
    | (go_at_call 29; (with_reducible refine (HD.out _ H1.out.2.2).mono ?_); rintro r w2 ⟨rfl, ho, hc⟩; have hp2 := hc.heap H1.out.2.1 HX.out.2.2.2.2; obtain ⟨y0, y1, y2⟩ := cells2 hp2; have H2 := Lib.hid (And.intro ho (And.intro hc hp2)); clear ho hc hp2))
  go_ret
  have hs := Chg.one w2 p 1 (.slice (some ⟨b, off, none⟩) n1 cap)
  have hF := HX.out.2.2.2.1
  refine ⟨rfl, F, ⟨some ⟨b, off, none⟩, n1, cap, heap_set H2.out.2.2 1 _, H2.out.1.keep hs (fun a ha e => by cases ha; exact HX.out.2.2.2.2 e.symm), HX.out.2.2.1, hF⟩, ?_, fun _ h => .inl h⟩
  refine ((Chg.of_below H1.out.1 (· ∈ F)).trans H2.out.2.1 (fun k _ h => ?_)).set (by rw [hF]; simp) 1 _
  rw [hF, h]; exact List.mem_cons_of_mem _ (mem_blk.2 ⟨_, rfl, rfl⟩)
theorem open_many (p last : Nat) (l : List Sess) (F : List Nat) (now life : Int) (w : World) (h : BookAt w p last l F) (hl : 16 ≤ l.length) (hlf : 1 ≤ life ∧ life ≤ 1099511627776) :
    Calls Try.prog 10 #[.pointer (some ⟨p, 0, none⟩), .int .u64 now, .int .u64 life] w fun e w' => e = .returned (.tuple #[.int .u64 0, .int .i64 14]) ∧ w = w' := by
  obtain ⟨lo, n, cap, h1, h2, h3, hF⟩ := h
  have hn := fl_own_len el_e h2
  obtain ⟨z0, z1, z2⟩ := cells2 h1
  have hn16 : (16 : Int) ≤ (n : Int) := by omega
  obtain ⟨hl1, hl2⟩ := hlf
  clear h1 h2 h3 hF hl hn
  go_enter Try.func10, Try.ntmps10
  go_wp2
  go_ret2
  exact ⟨rfl, rfl⟩
theorem clone_some (b off n c : Nat) (l : List Sess) (w : World) (h : Own w 3 (some ⟨b, off, none⟩) n c (l.flatMap Sess.cells)) (hn : n ≤ 1000000) :
    Calls Try.prog 24 #[.slice (some ⟨b, off, none⟩) n c] w fun e w' => ∃ xo xc, e = .returned (.slice xo n xc) ∧ Below w.heap.size w w' ∧ Own w' 3 xo n xc (l.flatMap Sess.cells) := by
  have q := Lib.run_eql_slice_nil (P := Try.prog) w 43 48 (some ⟨b, off, none⟩) n c 0 0 Try.underlying43
  have HC := Lib.hid h
  clear h
  go_enter Try.func24, Try.ntmps24
  go_wp2_with (at_builtin; refine wpList_append' rfl (.tmp 5) (.tmp 6) el_s rfl rfl rfl (Own.alloc0 _ 3 _ _) HC.out.len ((HC.out.keep ((Chg.refl (fun _ => False) w).alloc _) (fun _ _ h => h)).row) (fl_one el_e l) (by unfold maxLen; omega) (by omega) ?_; intro xo xc w2 hx hch _ hx2; simp only [Nat.zero_add, List.nil_append] at hx; have HO := Lib.hid hx; have HC2 := Lib.hid (chg_new (Below.refl _ _) hch); clear hx hch hx2)
  go_ret
  exact ⟨xo, xc, rfl, HC2.out, HO.out⟩
set_option maxHeartbeats 1000000 in
theorem all_some (p last : Nat) (l : List Sess) (F : List Nat) (w : World) (h : BookAt w p last l F) (hl : l.length ≤ 1000000) (h0 : 0 < l.length) :
    Calls Try.prog 15 #[.pointer (some ⟨p, 0, none⟩)] w fun e w' => ∃ xo n xc, e = .returned (.tuple #[.int .u64 (last : Int), .slice xo n xc]) ∧ Below w.heap.size w w' ∧ Own w' 3 xo n xc (l.flatMap Sess.cells) := by
  obtain ⟨lo, n, cap, h1, h2, h3, hF⟩ := h
  have hn := fl_own_len el_e h2
  obtain ⟨e, he⟩ : ∃ e, l[0]? = some e := ⟨_, List.getElem?_eq_getElem h0⟩
  obtain ⟨b, off, rfl, _⟩ := el_at h2 he
  obtain ⟨z0, z1, z2⟩ := cells2 h1
  have d0 : w.drew.cell? ⟨p, 0, none⟩ = some (.int .u64 (last : Int)) := z0
  have d1 : w.drew.cell? ⟨p, 1, none⟩ = some (.slice (some ⟨b, off, none⟩) n cap) := z1
  have HCL := Lib.hid (clone_some b off n cap l w.drew h2.drew (by omega))
  have HX := Lib.hid h1
  clear h1 h2 h3 hF hn he hl h0
  go_enter Try.func15, Try.ntmps15
  go_wp2
  go_region_with (go_at_call 24; (with_reducible refine HCL.out.mono ?_); rintro e1 w1 ⟨xo, xc, rfl, hb, ho⟩; obtain ⟨y0, y1, y2⟩ := cells2 ((Chg.of_below hb (fun _ => False)).heap (w := w.drew) HX.out (fun h => h)); have H1 := Lib.hid (And.intro hb ho); clear hb ho)
  all_goals go_wp2
  all_goals (
    go_ret2
    exact ⟨xo, n, xc, rfl, (Below.refl _ w).drew.trans H1.out.1, H1.out.2⟩)
end Go.Proofs.Ytgcldmmhfleggaa
