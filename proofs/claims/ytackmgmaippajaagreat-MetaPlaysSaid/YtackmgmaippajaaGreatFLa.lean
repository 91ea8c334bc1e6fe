/-
  JOINED BY fam.py out of: LeaseN, LeaseR, LeaseZ, LeaseS, LeaseO, LeaseU.
-/
import Derived.Test.YtackmgmaippajaaGreatFL
-- part LeaseN
namespace Go.Proofs.YtackmgmaippajaaGreat.Ls
set_option maxRecDepth 100000
open Go Go.RowKit

theorem open_nil (a b : Int) (w : World) : Calls Tryz.prog 82 #[.pointer none, .int .u64 a, .int .u64 b] w fun e w' => e = .returned (.tuple #[.int .u64 0, .int .i64 1]) ∧ w = w' := by
  go_enter Tryz.func82, Tryz.ntmps82
  go_wp2
  go_ret2
  exact ⟨rfl, rfl⟩
theorem all_nil (w : World) : Calls Tryz.prog 78 #[.pointer none] w fun e w' => e = .returned (.tuple #[.int .u64 0, .slice none 0 0]) ∧ w = w' := by
  go_enter Tryz.func78, Tryz.ntmps78
  go_wp2
  go_ret2
  exact ⟨rfl, rfl⟩
theorem renew_nil (a b : Int) (w : World) : Calls Tryz.prog 83 #[.pointer none, .int .u64 a, .int .u64 b] w fun e w' => e = .returned (.int .i64 1) ∧ w = w' := by
  go_enter Tryz.func83, Tryz.ntmps83
  go_wp2
  go_ret
  exact ⟨rfl, rfl⟩
theorem close_nil (a : Int) (w : World) : Calls Tryz.prog 84 #[.pointer none, .int .u64 a] w fun e w' => e = .returned (.int .i64 1) ∧ w = w' := by
  go_enter Tryz.func84, Tryz.ntmps84
  go_wp2
  go_ret
  exact ⟨rfl, rfl⟩
theorem live_nil (a b : Int) (w : World) : Calls Tryz.prog 79 #[.pointer none, .int .u64 a, .int .u64 b] w fun e w' => e = .returned (.bool false) ∧ w = w' := by
  go_enter Tryz.func79, Tryz.ntmps79
  go_wp2
  go_ret
  exact ⟨rfl, rfl⟩
theorem expire_nil (a : Int) (w : World) : Calls Tryz.prog 86 #[.pointer none, .int .u64 a] w fun e w' => e = .returned (.slice none 0 0) ∧ Below w.heap.size w w' := by
  go_enter Tryz.func86, Tryz.ntmps86
  go_wp2
  go_ret
  exact ⟨rfl, ((Below.refl _ w).alloc (Nat.le_refl _) _).alloc (by rw [size_alloc]; omega) _⟩
theorem cells4 {w : World} {p : Nat} {a b c d : Value} {t : TypeId} (h : w.heap[p]? = some (.cells #[a, b, c, d] t (0, 0))) :
    w.cell? ⟨p, 1, none⟩ = some b ∧ w.cell? ⟨p, 2, none⟩ = some c ∧ w.cell? ⟨p, 3, none⟩ = some d := by
  have h1 := heap_cell h 1
  have h2 := heap_cell h 2
  have h3 := heap_cell h 3
  simp at h1 h2 h3
  exact ⟨h1, h2, h3⟩
end Go.Proofs.YtackmgmaippajaaGreat.Ls
-- part LeaseR
namespace Go.Proofs.YtackmgmaippajaaGreat.Ls
set_option maxRecDepth 100000
open Go Go.RowKit

set_option maxHeartbeats 1000000 in
set_option maxRecDepth 100000 in
/-- slices.Delete of one session. -/
theorem delete_any (b off n n1 cap : Nat) (es : List Sess) (I J : Int) (i : Nat) (w : World) (h : Own w 3 (some ⟨b, off, none⟩) n cap (es.flatMap Sess.cells)) (hes : es.length = n) (hn : n ≤ 4096) (hn1 : n = n1 + 1) (hI : I = (i : Int)) (hJ : J = ((i + 1 : Nat) : Int)) (hi : i < n) :
    Calls Tryz.prog 114 #[.slice (some ⟨b, off, none⟩) n cap, .int .i64 I, .int .i64 J] w fun e w' => e = .returned (.slice (some ⟨b, off, none⟩) n1 cap) ∧ Own w' 3 (some ⟨b, off, none⟩) n1 cap ((es.eraseIdx i).flatMap Sess.cells) ∧ Chg (· = b) w w' := by
  subst hI; subst hJ
  have hcap := h.le
  have hmax := h.max
  have HO := Lib.hid (show Own w.drew 3 (some ⟨b, off, none⟩) i cap ((es.take i).flatMap Sess.cells) by rw [← fl_take el_e]; exact (h.cut (by omega) (by omega) (Nat.le_refl _)).drew)
  obtain ⟨A, hA⟩ : ∃ A : Option Addr, (if cap = i + 1 then some (⟨b, off, none⟩ : Addr) else some ⟨b, off + (i + 1) * 3, none⟩) = A := ⟨_, rfl⟩
  have HR := Lib.hid (show Row w.drew A _ by rw [← hA]; exact (fl_row el_e h hes (i + 1)).drew)
  have HL := Lib.hid (show ((es.drop (i + 1)).flatMap Sess.cells).length = (n - (i + 1)) * 3 by rw [fl_len el_e, List.length_drop, hes])
  have HN := Lib.hid (show i + (n - (i + 1)) = n1 by omega)
  have HE := Lib.hid (show (es.take i).flatMap Sess.cells ++ (es.drop (i + 1)).flatMap Sess.cells = (es.eraseIdx i).flatMap Sess.cells by rw [← List.flatMap_append, List.eraseIdx_eq_take_drop_succ])
  have HD := Lib.hid hn1
  clear h hes hn1
  have hic : i ≤ cap := by omega
  have hic' : (i : Int) ≤ (cap : Int) := by omega
  have hp0 : (0 : Int) ≤ (i : Int) + 1 := by omega
  have hp1 : (i : Int) + 1 ≤ (n : Int) := by omega
  have hp2 : ((i : Int) + 1).toNat = i + 1 := by omega
  have hp3 : (n : Int) ≤ (cap : Int) := by omega
  have hroom : i + (n - (i + 1)) ≤ cap := by omega
  have hbytes : (i + (n - (i + 1))) * 24 ≤ 140737488355328 := by omega
  go_enter Tryz.func114, Tryz.ntmps114
  go_wp2
  go_region_law (refine step_append_in rfl (.tmp 22) (.tmp 25) el_s rfl (c := cap - (i + 1)) ?hs ?hx HO.out HL.out HR.out (fl_one el_e _) hroom hbytes ?_; (case hs => simp [Act.eval, Act.put]); (case hx => simp [Act.eval, Act.put]); rw [HN.out, HE.out]; intro w2 hx hch; have H2 := Lib.hid (And.intro hx hch); clear hx hch)
  have g1 : (n1 : Int) ≤ (n : Int) := by have := HD.out; omega
  have g2 : ¬ cap = n1 := by have := HD.out; omega
  have g3 : n1 ≤ n := by have := HD.out; omega
  have g4 : 0 < n - n1 := by have := HD.out; omega
  have g5 : n1 + (n - n1) ≤ cap := by have := HD.out; omega
  go_wp2_with (refine wpList_clear' rfl (.tmp 31) el_s rfl rfl rfl H2.out.1 g4 g5 zero_one' ?_; intro w3 hx hch; have H3 := Lib.hid (And.intro hx hch); clear hx hch)
  all_goals (
    go_ret
    exact ⟨rfl, H3.out.1, ((Chg.refl (· = b) w).drew.trans H2.out.2 (by rintro i _ ⟨a, ha, e⟩; cases ha; exact e.symm)).trans H3.out.2 (fun _ _ h => h)⟩)
set_option maxHeartbeats 1000000 in
theorem close_some (p last id i : Nat) (e : Sess) (l : List Sess) (F : List Nat) (w : World) (h : BookAt w p last l F) (hl : l.length ≤ 4096) (he : l[i]? = some e) (hid : e.id = id) (hno : ∀ e ∈ l.take i, e.id ≠ id) :
    Calls Tryz.prog 84 #[.pointer (some ⟨p, 0, none⟩), .int .u64 (id : Int)] w fun r w' => r = .returned (.int .i64 0) ∧ Wrote w w' p last (l.eraseIdx i) F := by
  have HF := Lib.hid (find_some p last id i e l F w h (by omega) he hid hno)
  obtain ⟨lo, n, cap, h1, h2, h3, hF⟩ := h
  have hn := fl_own_len el_e h2
  obtain ⟨b, off, rfl, _⟩ := el_at h2 he
  have hin : i < n := by rw [← hn]; exact (List.getElem?_eq_some_iff.1 he).1
  obtain ⟨n1, hn1⟩ : ∃ n1, n = n1 + 1 := ⟨n - 1, by omega⟩
  have hii : ((i : Int)) < (n : Int) := by omega
  have hn4 : n ≤ 4096 := by omega
  have HD := Lib.hid (fun w1 (ho : Own w1 3 (some ⟨b, off, none⟩) n cap (l.flatMap Sess.cells)) => delete_any b off n n1 cap l (i : Int) ((i : Int) + 1) i w1 ho hn hn4 hn1 rfl (by omega) hin)
  have hpb : p ≠ b := fun e => h3 (mem_blk.2 ⟨_, rfl, e.symm⟩)
  have HX := Lib.hid (And.intro h1 (And.intro h2 (And.intro h3 (And.intro hF hpb))))
  clear h1 h2 h3 hF he hid hno hn hn1 hpb
  go_enter Tryz.func84, Tryz.ntmps84
  go_wp2_with (first
    | (go_at_call 110; (with_reducible refine HF.out.mono ?_); rintro r w1 ⟨rfl, hb⟩; have hC := Chg.of_below hb (fun _ => False); have hp1 := hC.heap HX.out.1 (fun h => h); obtain ⟨z0, z1, z2⟩ := cells2 hp1; have H1 := Lib.hid (And.intro hb (And.intro hp1 (HX.out.2.1.keep hC (fun _ _ h => h)))); clear hb hC hp1)
    | (go_at_call 114; (with_reducible refine (HD.out _ H1.out.2.2).mono ?_); rintro r w2 ⟨rfl, ho, hc⟩; have hp2 := hc.heap H1.out.2.1 HX.out.2.2.2.2; obtain ⟨y0, y1, y2⟩ := cells2 hp2; have H2 := Lib.hid (And.intro ho (And.intro hc hp2)); clear ho hc hp2))
  go_ret
  have hs := Chg.one w2 p 1 (.slice (some ⟨b, off, none⟩) n1 cap)
  have hF := HX.out.2.2.2.1
  refine ⟨rfl, F, ⟨some ⟨b, off, none⟩, n1, cap, heap_set H2.out.2.2 1 _, H2.out.1.keep hs (fun a ha e => by cases ha; exact HX.out.2.2.2.2 e.symm), HX.out.2.2.1, hF⟩, ?_, fun _ h => .inl h⟩
  refine ((Chg.of_below H1.out.1 (· ∈ F)).trans H2.out.2.1 (fun k _ h => ?_)).set (by rw [hF]; simp) 1 _
  rw [hF, h]; exact List.mem_cons_of_mem _ (mem_blk.2 ⟨_, rfl, rfl⟩)
theorem open_many (p last : Nat) (l : List Sess) (F : List Nat) (now life : Int) (w : World) (h : BookAt w p last l F) (hl : 16 ≤ l.length) (hlf : 1 ≤ life ∧ life ≤ 1099511627776) :
    Calls Tryz.prog 82 #[.pointer (some ⟨p, 0, none⟩), .int .u64 now, .int .u64 life] w fun e w' => e = .returned (.tuple #[.int .u64 0, .int .i64 14]) ∧ w = w' := by
  obtain ⟨lo, n, cap, h1, h2, h3, hF⟩ := h
  have hn := fl_own_len el_e h2
  obtain ⟨z0, z1, z2⟩ := cells2 h1
  have hn16 : (16 : Int) ≤ (n : Int) := by omega
  obtain ⟨hl1, hl2⟩ := hlf
  clear h1 h2 h3 hF hl hn
  go_enter Tryz.func82, Tryz.ntmps82
  go_wp2
  go_ret2
  exact ⟨rfl, rfl⟩
theorem clone_some (b off n c : Nat) (l : List Sess) (w : World) (h : Own w 3 (some ⟨b, off, none⟩) n c (l.flatMap Sess.cells)) (hn : n ≤ 1000000) :
    Calls Tryz.prog 105 #[.slice (some ⟨b, off, none⟩) n c] w fun e w' => ∃ xo xc, e = .returned (.slice xo n xc) ∧ Below w.heap.size w w' ∧ Own w' 3 xo n xc (l.flatMap Sess.cells) := by
  have q := Lib.run_eql_slice_nil (P := Tryz.prog) w 32 96 (some ⟨b, off, none⟩) n c 0 0 Tryz.underlying32
  have HC := Lib.hid h
  clear h
  go_enter Tryz.func105, Tryz.ntmps105
  go_wp2_with (at_builtin; refine wpList_append' rfl (.tmp 5) (.tmp 6) el_s rfl rfl rfl (Own.alloc0 _ 3 _ _) HC.out.len ((HC.out.keep ((Chg.refl (fun _ => False) w).alloc _) (fun _ _ h => h)).row) (fl_one el_e l) (by unfold maxLen; omega) (by omega) ?_; intro xo xc w2 hx hch _ hx2; simp only [Nat.zero_add, List.nil_append] at hx; have HO := Lib.hid hx; have HC2 := Lib.hid (chg_new (Below.refl _ _) hch); clear hx hch hx2)
  go_ret
  exact ⟨xo, xc, rfl, HC2.out, HO.out⟩
set_option maxHeartbeats 1000000 in
theorem all_some (p last : Nat) (l : List Sess) (F : List Nat) (w : World) (h : BookAt w p last l F) (hl : l.length ≤ 1000000) (h0 : 0 < l.length) :
    Calls Tryz.prog 78 #[.pointer (some ⟨p, 0, none⟩)] w fun e w' => ∃ xo n xc, e = .returned (.tuple #[.int .u64 (last : Int), .slice xo n xc]) ∧ Below w.heap.size w w' ∧ Own w' 3 xo n xc (l.flatMap Sess.cells) := by
  obtain ⟨lo, n, cap, h1, h2, h3, hF⟩ := h
  have hn := fl_own_len el_e h2
  obtain ⟨e, he⟩ : ∃ e, l[0]? = some e := ⟨_, List.getElem?_eq_getElem h0⟩
  obtain ⟨b, off, rfl, _⟩ := el_at h2 he
  obtain ⟨z0, z1, z2⟩ := cells2 h1
  have d0 : w.drew.cell? ⟨p, 0, none⟩ = some (.int .u64 (last : Int)) := z0
  have d1 : w.drew.cell? ⟨p, 1, none⟩ = some (.slice (some ⟨b, off, none⟩) n cap) := z1
  have HCL := Lib.hid (clone_some b off n cap l w.drew h2.drew (by omega))
  have HX := Lib.hid h1
  clear h1 h2 h3 hF hn he hl h0
  go_enter Tryz.func78, Tryz.ntmps78
  go_wp2
  go_region_with (go_at_call 105; (with_reducible refine HCL.out.mono ?_); rintro e1 w1 ⟨xo, xc, rfl, hb, ho⟩; obtain ⟨y0, y1, y2⟩ := cells2 ((Chg.of_below hb (fun _ => False)).heap (w := w.drew) HX.out (fun h => h)); have H1 := Lib.hid (And.intro hb ho); clear hb ho)
  all_goals go_wp2
  all_goals (
    go_ret2
    exact ⟨xo, n, xc, rfl, (Below.refl _ w).drew.trans H1.out.1, H1.out.2⟩)
end Go.Proofs.YtackmgmaippajaaGreat.Ls
-- part LeaseZ
namespace Go.Proofs.YtackmgmaippajaaGreat.Ls
set_option maxRecDepth 100000
open Go Go.RowKit

theorem stays_snoc (l : List Sess) (e : Sess) (now : Nat) : stays (l ++ [e]) now = if e.ends ≤ now then stays l now else stays l now ++ [e] := by
  unfold stays
  rw [List.filter_append]
  by_cases h : e.ends ≤ now
  · simp [h]
  · simp [h]
theorem stays_len (l : List Sess) (now : Nat) : (stays l now).length ≤ l.length := List.length_filter_le ..
end Go.Proofs.YtackmgmaippajaaGreat.Ls
-- part LeaseS
namespace Go.Proofs.YtackmgmaippajaaGreat.Ls
set_option maxRecDepth 100000
open Go Go.RowKit

theorem alloc_cell {w : World} {a : Addr} {v : Value} {o : Obj} (h : w.cell? a = some v) : (w.alloc o).cell? a = some v := by
  rw [World.cell?_alloc_some _ _ _ (by rw [h]; rfl)]; exact h
theorem close_none (p last id : Nat) (l : List Sess) (F : List Nat) (w : World) (h : BookAt w p last l F) (hl : l.length ≤ 1000000) (hno : ∀ e ∈ l, e.id ≠ id) :
    Calls Tryz.prog 84 #[.pointer (some ⟨p, 0, none⟩), .int .u64 (id : Int)] w fun r w' => r = .returned (.int .i64 11) ∧ Below w.heap.size w w' := by
  have HF := Lib.hid (find_none p last id l F w h hl hno)
  clear h hno
  go_enter Tryz.func84, Tryz.ntmps84
  go_wp2_with (go_at_call 110; (with_reducible refine HF.out.mono ?_); rintro r w1 ⟨rfl, hb⟩; have H1 := Lib.hid hb; clear hb)
  go_ret
  exact ⟨rfl, H1.out⟩
end Go.Proofs.YtackmgmaippajaaGreat.Ls
-- part LeaseO
namespace Go.Proofs.YtackmgmaippajaaGreat.Ls
set_option maxRecDepth 100000
open Go Go.RowKit

theorem open_time (p now life : Nat) (w : World) (hlf : life = 0 ∨ 1099511627776 < life) :
    Calls Tryz.prog 82 #[.pointer (some ⟨p, 0, none⟩), .int .u64 (now : Int), .int .u64 (life : Int)] w fun e w' => e = .returned (.tuple #[.int .u64 0, .int .i64 63]) ∧ w = w' := by
  rcases hlf with rfl | hlf
  · go_enter Tryz.func82, Tryz.ntmps82
    go_wp2
    go_ret2
    exact ⟨rfl, rfl⟩
  · have h0 : ¬ ((life : Int) < 1) := by omega
    have h1 : 1099511627776 < (life : Int) := by omega
    clear hlf
    go_enter Tryz.func82, Tryz.ntmps82
    go_wp2
    go_ret2
    exact ⟨rfl, rfl⟩
theorem open_last (p : Nat) (l : List Sess) (F : List Nat) (now life : Nat) (w : World) (h : BookAt w p 18446744073709551615 l F) (hl : l.length < 16) (hlf : 1 ≤ life ∧ life ≤ 1099511627776) :
    Calls Tryz.prog 82 #[.pointer (some ⟨p, 0, none⟩), .int .u64 (now : Int), .int .u64 (life : Int)] w fun e w' => e = .returned (.tuple #[.int .u64 0, .int .i64 14]) ∧ w = w' := by
  obtain ⟨lo, n, cap, h1, h2, h3, hF⟩ := h
  have hn := fl_own_len el_e h2
  obtain ⟨z0, z1, z2⟩ := cells2 h1
  have hn16 : ¬ (16 : Int) ≤ (n : Int) := by omega
  have hl1 : ¬ ((life : Int) < 1) := by omega
  have hl2 : ¬ (1099511627776 < (life : Int)) := by omega
  clear h1 h2 h3 hF hl hn hlf
  go_enter Tryz.func82, Tryz.ntmps82
  go_wp2
  go_ret2
  exact ⟨rfl, rfl⟩
end Go.Proofs.YtackmgmaippajaaGreat.Ls
-- part LeaseU
namespace Go.Proofs.YtackmgmaippajaaGreat.Ls
set_option maxRecDepth 100000
open Go Go.RowKit

def SessIs (t : Sess) (cs : List Value) : Prop := cs = t.cells ∧ t.id < 18446744073709551616 ∧ t.ends < 18446744073709551616 ∧ t.life < 18446744073709551616
theorem sess_rd {w : World} {cs : List Value} (h : Rd Tryz.prog w 96 cs) : ∃ t, SessIs t cs := by
  have hu := Tryz.underlying96
  obtain ⟨c0, c1, c2, rfl⟩ := list3 ((h.struct hu).1.trans (by kernel_rfl))
  obtain ⟨a, e1, h1⟩ := (h.field hu 0 rfl (n := 1) (by kernel_rfl)).u64 Tryz.underlying28
  obtain ⟨b, e2, h2⟩ := (h.field hu 1 rfl (n := 1) (by kernel_rfl)).u64 Tryz.underlying28
  obtain ⟨c, e3, h3⟩ := (h.field hu 2 rfl (n := 1) (by kernel_rfl)).u64 Tryz.underlying28
  simp at e1 e2 e3
  subst e1 e2 e3
  exact ⟨⟨a, b, c⟩, rfl, h1, h2, h3⟩
theorem row_sess {w : World} {ao : Option Addr} {l : List Sess} (h : RowOf w ao 3 SessIs l) : Row w ao (l.flatMap Sess.cells) := by
  intro hne
  have h0 : 0 < l.length := by cases l with | nil => exact absurd rfl hne | cons => simp
  obtain ⟨b, off, rfl, h1⟩ := h h0
  refine ⟨b, off, rfl, fun i v hv => ?_⟩
  have hi := (List.getElem?_eq_some_iff.1 hv).1
  rw [fl_len el_e] at hi
  have hq : i / 3 < l.length := by omega
  obtain ⟨cs, hcs, ⟨rfl, _⟩, hc⟩ := h1 (i / 3) hq
  have hfl := fl_get el_e (List.getElem?_eq_getElem hq) (show i % 3 < 3 by omega)
  rw [show i / 3 * 3 + i % 3 = i by omega, hv] at hfl
  have := hc (i % 3) v hfl.symm
  rwa [show off + i / 3 * 3 + i % 3 = off + i by omega] at this
theorem row_at {w : World} {ao : Option Addr} {l : List Sess} {k : Nat} {e : Sess} (h : Row w ao (l.flatMap Sess.cells)) (he : l[k]? = some e) :
    ∃ b off, ao = some ⟨b, off, none⟩ ∧ w.cell? ⟨b, off + k * 3, none⟩ = some (.int .u64 (e.id : Int)) ∧ w.cell? ⟨b, off + k * 3 + 1, none⟩ = some (.int .u64 (e.ends : Int)) ∧ w.cell? ⟨b, off + k * 3 + 2, none⟩ = some (.int .u64 (e.life : Int)) := by
  have h0 := fl_get el_e he (show 0 < 3 by omega)
  have h1 := fl_get el_e he (show 1 < 3 by omega)
  have h2 := fl_get el_e he (show 2 < 3 by omega)
  obtain ⟨b, off, rfl, hc⟩ := h (by intro e0; rw [e0] at h0; cases h0)
  refine ⟨b, off, rfl, ?_, ?_, ?_⟩
  · have := hc _ _ h0; rwa [Nat.add_zero] at this
  · have := hc _ _ h1; rwa [← Nat.add_assoc] at this
  · have := hc _ _ h2; rwa [← Nat.add_assoc] at this
/-- A session that may stand at place k of a book's list. -/
def Good (last : Nat) (l : List Sess) (k : Nat) (e : Sess) : Prop := 1 ≤ e.id ∧ e.id ≤ last ∧ 1 ≤ e.life ∧ e.life ≤ 1099511627776 ∧ (k = 0 ∨ ∃ q d, k = q + 1 ∧ l[q]? = some d ∧ d.id < e.id)
theorem first_bad (last : Nat) (l : List Sess) : ∀ n, (∀ k, k < n → ∀ e, l[k]? = some e → Good last l k e) ∨ ∃ k, k < n ∧ ∃ e, l[k]? = some e ∧ ¬ Good last l k e ∧ ∀ j, j < k → ∀ d, l[j]? = some d → Good last l j d
  | 0 => .inl (fun k hk => by omega)
  | n + 1 => by
    rcases first_bad last l n with h | ⟨k, hk, h⟩
    · by_cases hg : ∀ e, l[n]? = some e → Good last l n e
      · left
        intro k hk e he
        by_cases hkn : k < n
        · exact h k hkn e he
        · obtain rfl : k = n := by omega
          exact hg e he
      · right
        obtain ⟨e, he⟩ := Classical.not_forall.1 hg
        obtain ⟨he, hb⟩ := Classical.not_imp.1 he
        exact ⟨n, by omega, e, he, hb, h⟩
    · exact .inr ⟨k, by omega, h⟩
/-- Why a session may not stand there. -/
theorem bad_why {last : Nat} {l : List Sess} {k : Nat} {e : Sess} (hl : k < l.length) (h : ¬ Good last l k e) :
    e.id = 0 ∨ (1 ≤ e.id ∧ last < e.id) ∨ (1 ≤ e.id ∧ e.id ≤ last ∧ e.life = 0) ∨ (1 ≤ e.id ∧ e.id ≤ last ∧ 1 ≤ e.life ∧ 1099511627776 < e.life) ∨ (1 ≤ e.id ∧ e.id ≤ last ∧ 1 ≤ e.life ∧ e.life ≤ 1099511627776 ∧ ∃ q d, k = q + 1 ∧ l[q]? = some d ∧ e.id ≤ d.id) := by
  unfold Good at h
  by_cases h1 : 1 ≤ e.id
  · by_cases h2 : e.id ≤ last
    · by_cases h3 : 1 ≤ e.life
      · by_cases h4 : e.life ≤ 1099511627776
        · refine .inr (.inr (.inr (.inr ⟨h1, h2, h3, h4, ?_⟩)))
          cases k with
          | zero => exact absurd ⟨h1, h2, h3, h4, .inl rfl⟩ h
          | succ q =>
            refine ⟨q, l[q], rfl, List.getElem?_eq_getElem (by omega), ?_⟩
            by_cases hd : e.id ≤ l[q].id
            · exact hd
            · exact absurd ⟨h1, h2, h3, h4, .inr ⟨q, l[q], rfl, List.getElem?_eq_getElem (by omega), by omega⟩⟩ h
        · exact .inr (.inr (.inr (.inl ⟨h1, h2, h3, by omega⟩)))
      · exact .inr (.inr (.inl ⟨h1, h2, by omega⟩))
    · exact .inr (.inl ⟨h1, by omega⟩)
  · exact .inl (by omega)
theorem bdrew {w w' : World} (h : Below w.heap.size w w') (n : Nat) : Below w.heap.size w (w'.drewN n) :=
  h.trans (((Chg.refl (fun _ => False) w').drewN n).below h.size (fun _ h => h.elim))
theorem new_long (last : Int) (ao : Option Addr) (n c : Nat) (w : World) (hn : 16 < n) (hm : n ≤ 1000000) :
    Calls Tryz.prog 66 #[.int .u64 last, .slice ao n c] w fun e w' => e = .returned (.tuple #[.pointer none, .bool false]) ∧ w = w' := by
  have h : (16 : Int) < (n : Int) := by omega
  go_enter Tryz.func66, Tryz.ntmps66
  go_wp2
  go_ret2
  exact ⟨rfl, rfl⟩
end Go.Proofs.YtackmgmaippajaaGreat.Ls
