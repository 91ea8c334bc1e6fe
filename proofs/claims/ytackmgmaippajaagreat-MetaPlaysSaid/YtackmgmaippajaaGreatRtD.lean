/-
  LAYER 8: the document's Delete inside its State (printed by m7rt.py).
-/
import Derived.Test.YtackmgmaippajaaGreatRtV
import Derived.Test.YtackmgmaippajaaGreatFB
namespace Go.Proofs.YtackmgmaippajaaGreat.Tr
open Go Go.RowKit

theorem rdel_none (p : Nat) (cs : Array Value) (t : TypeId) (rs : List Pl) (G : List Nat) (key : ByteArray) (want : Value) (w : World) (h : RTreeAt w p cs t rs G) (hn : rs.length ≤ 256) (hl : ∀ x ∈ rs, cmpB x.key key ≠ 0) :
    Calls Tryz.prog 30 #[.pointer (some ⟨p, 1, none⟩), .string key, want] w fun r w' => r = .returned (.int .i64 11) ∧ w = w' := by
  obtain ⟨lo, n, cap, l, h⟩ := h
  have HAT := Lib.hid (rat_to p cs t lo n cap l rs G key n (-1) w h (by have := h.len.2; omega) (Nat.le_refl _) (fun x hx => hl x (List.mem_of_mem_take hx)) (.inl ⟨rfl, rfl⟩))
  clear h
  go_enter Tryz.func30, Tryz.ntmps30
  go_wp2_with (go_at_call 54; (with_reducible refine HAT.out.mono ?_); rintro r w2 ⟨rfl, rfl⟩)
  go_ret
  exact ⟨rfl, rfl⟩
set_option maxHeartbeats 2000000 in
set_option maxRecDepth 100000 in
theorem rdel_old (p : Nat) (cs : Array Value) (t : TypeId) (rs : List Pl) (G : List Nat) (key : ByteArray) (x : Pl) (k want : Nat) (w : World) (h : RTreeAt w p cs t rs G) (hn : rs.length ≤ 256) (hx : rs[k]? = some x) (h0 : cmpB x.key key = 0) (hno : ∀ y ∈ rs.take k, cmpB y.key key ≠ 0) (hv : x.ver ≠ want) :
    Calls Tryz.prog 30 #[.pointer (some ⟨p, 1, none⟩), .string key, .int .u64 (want : Int)] w fun r w' => r = .returned (.int .i64 13) ∧ w = w' := by
  obtain ⟨lo, n, cap, l, h⟩ := h
  have hi := (List.getElem?_eq_some_iff.1 hx).1
  have HAT := Lib.hid (rat_to p cs t lo n cap l rs G key k (k : Int) w h (by have := h.len.2; omega) (by have := h.len.2; omega) hno (.inr ⟨rfl, x, hx, h0⟩))
  obtain ⟨e, he, rfl⟩ := h.got hx
  have hkI : (k : Int) < (n : Int) := by have := h.len.2; omega
  have hk0 : (0 : Int) ≤ (k : Int) := by omega
  have hk1 : ¬ (k : Int) < 0 := by omega
  obtain ⟨bb, off, rfl, q0, q1, q2, q3⟩ := nd_at h.own.row he
  obtain ⟨z0, z2⟩ := cellsK h.heap h.at1
  have hvI : ((e.ver : Int) == (want : Int)) = false := by have : e.ver ≠ want := hv; simp; omega
  clear h hx h0 hno hv he hi
  generalize (e.ver : Int) = V at *
  go_enter Tryz.func30, Tryz.ntmps30
  go_wp2_with (go_at_call 54; (with_reducible refine HAT.out.mono ?_); rintro r w2 ⟨rfl, rfl⟩)
  go_ret
  exact ⟨rfl, rfl⟩
theorem delK_first : ∀ {rs : List Pl} {key : ByteArray} {x : Pl} {i : Nat}, rs[i]? = some x → cmpB x.key key = 0 → (∀ y ∈ rs.take i, cmpB y.key key ≠ 0) → delK rs key = rs.eraseIdx i
  | [], _, _, _, hx, _, _ => by simp at hx
  | y :: ps, key, x, 0, hx, h0, _ => by simp at hx; subst hx; rw [delK, if_pos h0]; rfl
  | y :: ps, key, x, i + 1, hx, h0, hno => by
    rw [delK, if_neg (hno y (by simp)), delK_first (i := i) (by simpa using hx) h0 (fun z hz => hno z (by simp [hz]))]
    rfl
set_option maxHeartbeats 4000000 in
set_option maxRecDepth 100000 in
theorem rdel_ok (p : Nat) (cs : Array Value) (t : TypeId) (rs : List Pl) (G : List Nat) (key : ByteArray) (x : Pl) (k want : Nat) (w : World) (h : RTreeAt w p cs t rs G) (hn : rs.length ≤ 256) (hx : rs[k]? = some x) (h0 : cmpB x.key key = 0) (hno : ∀ y ∈ rs.take k, cmpB y.key key ≠ 0) (hv : x.ver = want) :
    Calls Tryz.prog 30 #[.pointer (some ⟨p, 1, none⟩), .string key, .int .u64 (want : Int)] w fun r w' => r = .returned (.int .i64 0) ∧ RWrote w w' p cs t (delK rs key) G := by
  obtain ⟨lo, n, cap, l, h⟩ := h
  have hi := (List.getElem?_eq_some_iff.1 hx).1
  have hn256 : n ≤ 256 := by have := h.len.2; omega
  have hkn : k < n := by have := h.len.2; omega
  have HAT := Lib.hid (rat_to p cs t lo n cap l rs G key k (k : Int) w h hn256 (by omega) hno (.inr ⟨rfl, x, hx, h0⟩))
  have HDK := Lib.hid (delK_first hx h0 hno)
  obtain ⟨e, he, rfl⟩ := h.got hx
  have hkI : (k : Int) < (n : Int) := by omega
  have hk0 : (0 : Int) ≤ (k : Int) := by omega
  have hk1 : ¬ (k : Int) < 0 := by omega
  have HI := Lib.hid h
  have HN := Lib.hid h.len.1
  have ho := h.own
  obtain ⟨bb, off, rfl, q0, q1, q2, q3⟩ := nd_at h.own.row he
  obtain ⟨z0, z2⟩ := cellsK h.heap h.at1
  have hvI : (e.ver : Int) = (want : Int) := by have : e.ver = want := hv; omega
  have hcap := ho.le
  have hmax := ho.max
  clear h hx h0 hno hv he hi
  generalize (e.ver : Int) = V at *
  subst hvI
  go_enter Tryz.func30, Tryz.ntmps30
  go_upto_region 6 with (go_at_call 54; (with_reducible refine HAT.out.mono ?_); rintro r w2 ⟨rfl, rfl⟩)
  obtain ⟨W, hWw⟩ : ∃ W, W = w := ⟨_, rfl⟩
  have HB := Lib.hid (show Below w.heap.size w W by rw [hWw]; exact Below.refl _ _)
  have hp1 : W.heap[p]? = some (.cells cs t (0, 0)) := by rw [hWw]; exact HI.out.heap
  have ho1 : Own W 4 (some ⟨bb, off, none⟩) n cap (l.flatMap Nd.cells) := by rw [hWw]; exact ho
  have hgoal := hWw
  rw [← hgoal]
  clear hgoal hWw
  obtain ⟨y0, y2⟩ := cellsK hp1 HI.out.at1
  have d0 : W.drew.cell? ⟨p, 1, none⟩ = some (.slice (some ⟨bb, off, none⟩) n cap) := y0
  have a0 : (W.alloc (.cells #[] 78)).cell? ⟨p, 1, none⟩ = some (.slice (some ⟨bb, off, none⟩) n cap) := alloc_cell y0
  have a0' : (W.alloc (.cells #[] 78)).drew.cell? ⟨p, 1, none⟩ = some (.slice (some ⟨bb, off, none⟩) n cap) := a0
  have HO := Lib.hid (show Row W (some ⟨bb, off, none⟩) ((l.take k).flatMap Nd.cells) by rw [← fl_take el_e]; exact ho1.row.take _)
  obtain ⟨A, hA⟩ : ∃ A : Option Addr, (if cap = k + 1 then some (⟨bb, off, none⟩ : Addr) else some ⟨bb, off + (k + 1) * 4, none⟩) = A := ⟨_, rfl⟩
  have HRR := Lib.hid (show Row W A _ by rw [← hA]; exact fl_row el_e ho1 HN.out (k + 1))
  have HL := Lib.hid (And.intro (show ((l.take k).flatMap Nd.cells).length = k * 4 by rw [fl_len el_e, List.length_take]; have := HN.out; congr 1; omega) (show ((l.drop (k + 1)).flatMap Nd.cells).length = (n - (k + 1)) * 4 by rw [fl_len el_e, List.length_drop, HN.out]))
  have HE := Lib.hid (show (l.take k).flatMap Nd.cells ++ (l.drop (k + 1)).flatMap Nd.cells = (l.eraseIdx k).flatMap Nd.cells by rw [← List.flatMap_append, List.eraseIdx_eq_take_drop_succ])
  have HP := Lib.hid (And.intro hp1 HB.out)
  have hic : k ≤ cap := by omega
  have hic' : (k : Int) ≤ (cap : Int) := by omega
  have hic2 : (k : Int) ≤ (n : Int) := by omega
  have hp0 : (0 : Int) ≤ (k : Int) + 1 := by omega
  have hpp1 : (k : Int) + 1 ≤ (n : Int) := by omega
  have hp2 : ((k : Int) + 1).toNat = k + 1 := by omega
  have hp3 : (n : Int) ≤ (cap : Int) := by omega
  have hw := IntWalk.i64_in ((k : Int) + 1) (by omega)
  have HZ := Lib.hid (show 0 + k ≤ maxLen ∧ (0 + k) * 56 ≤ 140737488355328 ∧ k + (n - (k + 1)) ≤ maxLen ∧ (k + (n - (k + 1))) * 56 ≤ 140737488355328 from ⟨by unfold maxLen; omega, by omega, by unfold maxLen; omega, by omega⟩)
  clear hp1 ho1 ho q0 q1 q2 q3 z0 z2 y0
  refine wp_region_noPanic ?_
  refine wp_region_last (n := 19) (m := 19) (S := fun wx => wx.cell? ⟨p, 1, none⟩ = some (.slice (some ⟨bb, off, none⟩) n cap)) (by kernel_rfl) rfl rfl (by kernel_rfl) d0 (fun hHeld => ?_)
  refine wpAnyH_take (i := 0) (oi := { dst := some 23, op := Op.move (Operand.tmp 0), type := 114, pos := "ref.go:70", after := #[], guard := none }) (v := ?v0) rfl (by kernel_rfl) (by kernel_rfl) (by kernel_rfl) (fun _ _ _ h => h) (Or.inl ⟨by rfl, ?hy0⟩) (by assumption) ?rest0
  case hy0 => (intro w hSw; (try dsimp only at hSw); go_simp; all_goals (with_reducible rfl))
  (try simp only [Act.put, List.setIfInBounds_toArray, List.set_cons_zero, List.set_cons_succ])
  refine wpAnyH_take (i := 2) (oi := { dst := some 25, op := Op.move (Operand.tmp 0), type := 114, pos := "ref.go:70", after := #[], guard := none }) (v := ?v2) rfl (by kernel_rfl) (by kernel_rfl) (by kernel_rfl) (fun _ _ _ h => h) (Or.inl ⟨by rfl, ?hy2⟩) (by assumption) ?rest2
  case hy2 => (intro w hSw; (try dsimp only at hSw); go_simp; all_goals (with_reducible rfl))
  (try simp only [Act.put, List.setIfInBounds_toArray, List.set_cons_zero, List.set_cons_succ])
  refine wpAnyH_take (i := 3) (oi := { dst := some 26, op := Op.nilCheck (Operand.tmp 25), type := 0, pos := "ref.go:70", after := #[{ on := 2, ground := Ground.data }], guard := none }) (v := ?v3) rfl (by kernel_rfl) (by kernel_rfl) (by kernel_rfl) (fun _ _ _ h => h) (Or.inl ⟨by rfl, ?hy3⟩) (by assumption) ?rest3
  case hy3 => (intro w hSw; (try dsimp only at hSw); go_simp; all_goals (with_reducible rfl))
  (try simp only [Act.put, List.setIfInBounds_toArray, List.set_cons_zero, List.set_cons_succ])
  refine wpAnyH_take (i := 4) (oi := { dst := some 27, op := Op.fieldAddr 31 (Operand.tmp 26) 0, type := 0, pos := "ref.go:70", after := #[{ on := 3, ground := Ground.data }], guard := none }) (v := ?v4) rfl (by kernel_rfl) (by kernel_rfl) (by kernel_rfl) (fun _ _ _ h => h) (Or.inl ⟨by rfl, ?hy4⟩) (by assumption) ?rest4
  case hy4 => (intro w hSw; (try dsimp only at hSw); go_simp; all_goals (with_reducible rfl))
  (try simp only [Act.put, List.setIfInBounds_toArray, List.set_cons_zero, List.set_cons_succ])
  refine wpAnyH_take (i := 5) (oi := { dst := some 28, op := Op.load 29 (Operand.tmp 27), type := 29, pos := "ref.go:70", after := #[{ on := 4, ground := Ground.data }], guard := none }) (v := ?v5) rfl (by kernel_rfl) (by kernel_rfl) (by kernel_rfl) (fun _ _ _ h => h) (Or.inl ⟨by rfl, ?hy5⟩) (by assumption) ?rest5
  case hy5 => (intro w hSw; (try dsimp only at hSw); go_simp; all_goals (with_reducible rfl))
  (try simp only [Act.put, List.setIfInBounds_toArray, List.set_cons_zero, List.set_cons_succ])
  refine wpAnyH_take (i := 6) (oi := { dst := some 29, op := Op.move (Operand.tmp 7), type := 3, pos := "ref.go:70", after := #[], guard := none }) (v := ?v6) rfl (by kernel_rfl) (by kernel_rfl) (by kernel_rfl) (fun _ _ _ h => h) (Or.inl ⟨by rfl, ?hy6⟩) (by assumption) ?rest6
  case hy6 => (intro w hSw; (try dsimp only at hSw); go_simp; all_goals (with_reducible rfl))
  (try simp only [Act.put, List.setIfInBounds_toArray, List.set_cons_zero, List.set_cons_succ])
  refine wpAnyH_take (i := 7) (oi := { dst := some 30, op := Op.slice 29 (Operand.tmp 28) none (some (Operand.tmp 29)) none, type := 29, pos := "ref.go:70", after := #[{ on := 5, ground := Ground.data }, { on := 6, ground := Ground.data }], guard := none }) (v := ?v7) rfl (by kernel_rfl) (by kernel_rfl) (by kernel_rfl) (fun _ _ _ h => h) (Or.inl ⟨by rfl, ?hy7⟩) (by assumption) ?rest7
  case hy7 => (intro w hSw; (try dsimp only at hSw); go_simp; all_goals (with_reducible rfl))
  (try simp only [Act.put, List.setIfInBounds_toArray, List.set_cons_zero, List.set_cons_succ])
  refine wpAnyH_take (i := 9) (oi := { dst := some 32, op := Op.move (Operand.tmp 0), type := 114, pos := "ref.go:70", after := #[], guard := none }) (v := ?v9) rfl (by kernel_rfl) (by kernel_rfl) (by kernel_rfl) (fun _ _ _ h => h) (Or.inl ⟨by rfl, ?hy9⟩) (by assumption) ?rest9
  case hy9 => (intro w hSw; (try dsimp only at hSw); go_simp; all_goals (with_reducible rfl))
  (try simp only [Act.put, List.setIfInBounds_toArray, List.set_cons_zero, List.set_cons_succ])
  refine wpAnyH_take (i := 10) (oi := { dst := some 33, op := Op.nilCheck (Operand.tmp 32), type := 0, pos := "ref.go:70", after := #[{ on := 9, ground := Ground.data }], guard := none }) (v := ?v10) rfl (by kernel_rfl) (by kernel_rfl) (by kernel_rfl) (fun _ _ _ h => h) (Or.inl ⟨by rfl, ?hy10⟩) (by assumption) ?rest10
  case hy10 => (intro w hSw; (try dsimp only at hSw); go_simp; all_goals (with_reducible rfl))
  (try simp only [Act.put, List.setIfInBounds_toArray, List.set_cons_zero, List.set_cons_succ])
  refine wpAnyH_take (i := 11) (oi := { dst := some 34, op := Op.fieldAddr 31 (Operand.tmp 33) 0, type := 0, pos := "ref.go:70", after := #[{ on := 10, ground := Ground.data }], guard := none }) (v := ?v11) rfl (by kernel_rfl) (by kernel_rfl) (by kernel_rfl) (fun _ _ _ h => h) (Or.inl ⟨by rfl, ?hy11⟩) (by assumption) ?rest11
  case hy11 => (intro w hSw; (try dsimp only at hSw); go_simp; all_goals (with_reducible rfl))
  (try simp only [Act.put, List.setIfInBounds_toArray, List.set_cons_zero, List.set_cons_succ])
  refine wpAnyH_take (i := 12) (oi := { dst := some 35, op := Op.load 29 (Operand.tmp 34), type := 29, pos := "ref.go:70", after := #[{ on := 11, ground := Ground.data }], guard := none }) (v := ?v12) rfl (by kernel_rfl) (by kernel_rfl) (by kernel_rfl) (fun _ _ _ h => h) (Or.inl ⟨by rfl, ?hy12⟩) (by assumption) ?rest12
  case hy12 => (intro w hSw; (try dsimp only at hSw); go_simp; all_goals (with_reducible rfl))
  (try simp only [Act.put, List.setIfInBounds_toArray, List.set_cons_zero, List.set_cons_succ])
  refine wpAnyH_take (i := 13) (oi := { dst := some 36, op := Op.move (Operand.tmp 7), type := 3, pos := "ref.go:70", after := #[], guard := none }) (v := ?v13) rfl (by kernel_rfl) (by kernel_rfl) (by kernel_rfl) (fun _ _ _ h => h) (Or.inl ⟨by rfl, ?hy13⟩) (by assumption) ?rest13
  case hy13 => (intro w hSw; (try dsimp only at hSw); go_simp; all_goals (with_reducible rfl))
  (try simp only [Act.put, List.setIfInBounds_toArray, List.set_cons_zero, List.set_cons_succ])
  refine wpAnyH_take (i := 14) (oi := { dst := some 37, op := Op.binOp BinOp.add 3 (Operand.tmp 36) (Operand.const (Value.int IntKind.i64 1)) 3, type := 3, pos := "ref.go:70", after := #[{ on := 13, ground := Ground.data }], guard := none }) (v := ?v14) rfl (by kernel_rfl) (by kernel_rfl) (by kernel_rfl) (fun _ _ _ h => h) (Or.inl ⟨by rfl, ?hy14⟩) (by assumption) ?rest14
  case hy14 => (intro w hSw; (try dsimp only at hSw); go_simp; all_goals (with_reducible rfl))
  (try simp only [Act.put, List.setIfInBounds_toArray, List.set_cons_zero, List.set_cons_succ])
  refine wpAnyH_take (i := 15) (oi := { dst := some 38, op := Op.slice 29 (Operand.tmp 35) (some (Operand.tmp 37)) none none, type := 29, pos := "ref.go:70", after := #[{ on := 12, ground := Ground.data }, { on := 14, ground := Ground.data }], guard := none }) (v := ?v15) rfl (by kernel_rfl) (by kernel_rfl) (by kernel_rfl) (fun _ _ _ h => h) (Or.inl ⟨by rfl, ?hy15⟩) (by assumption) ?rest15
  case hy15 => (intro w hSw; (try dsimp only at hSw); go_simp; all_goals (with_reducible rfl))
  (try simp only [Act.put, List.setIfInBounds_toArray, List.set_cons_zero, List.set_cons_succ])
  refine wpAnyH_ready (rs := [1]) (by kernel_rfl) (by simp) ?_
  refine AllReadyH.cons (o := { dst := some 24, op := Op.buildSlice 29 0 #[], type := 29, pos := "ref.go:70", after := #[], guard := none }) rfl (fun K hK => ?_) AllReadyH.nil
  go_simp
  refine hK.out _ _ (a0') (fun hHeld => ?_)
  clear hK K
  (try simp only [Act.put, List.setIfInBounds_toArray, List.set_cons_zero, List.set_cons_succ])
  refine wpAnyH_ready (rs := [8]) (by kernel_rfl) (by simp) ?_
  refine AllReadyH.cons (o := { dst := some 31, op := Op.call { callee := Callee.builtin Builtin.append, args := #[Operand.tmp 24, Operand.tmp 30], argTypes := #[29, 29] }, type := 29, pos := "ref.go:70", after := #[{ on := 1, ground := Ground.data }, { on := 7, ground := Ground.data }], guard := none }) rfl (fun K hK => ?_) AllReadyH.nil
  refine step_append' rfl (.tmp 24) (.tmp 30) el_i rfl (c := cap) ?hs ?hx (Own.alloc0 W 4 _ _).drew HL.out.1 (HO.out.below ((Below.refl _ W).alloc (Nat.le_refl _) _)).drew (fl_one el_e _) HZ.out.1 HZ.out.2.1 ?_
  (case hs => simp [Act.eval, Act.put])
  (case hx => simp [Act.eval, Act.put])
  simp only [Nat.zero_add, List.nil_append]
  intro xo xc w2 hx hch _ hx2
  have hb2 := chg_new (Below.refl _ _) hch.undrew
  have hf2 := new_blk (Below.refl _ W) hx2
  have hpp := (Chg.of_below hb2 (fun _ => False)).heap HP.out.1 (fun h => h)
  obtain ⟨yy0, yy2⟩ := cellsK hpp HI.out.at1
  have H2 := Lib.hid (And.intro hx (And.intro hb2 (And.intro hf2 hpp)))
  clear hx hch hx2 hb2 hf2 hpp
  refine hK.out _ _ ((cellsK H2.out.2.2.2 HI.out.at1).1) (fun hHeld => ?_)
  clear hK K
  (try simp only [Act.put, List.setIfInBounds_toArray, List.set_cons_zero, List.set_cons_succ])
  refine wpAnyH_ready (rs := [16]) (by kernel_rfl) (by simp) ?_
  refine AllReadyH.cons (o := { dst := some 39, op := Op.call { callee := Callee.builtin Builtin.append, args := #[Operand.tmp 31, Operand.tmp 38], argTypes := #[29, 29] }, type := 29, pos := "ref.go:70", after := #[{ on := 8, ground := Ground.data }, { on := 15, ground := Ground.data }, { on := 8, ground := Ground.chain }], guard := none }) rfl (fun K hK => ?_) AllReadyH.nil
  refine step_append' rfl (.tmp 31) (.tmp 38) el_i rfl (c := cap - (k + 1)) ?hs ?hx H2.out.1 HL.out.2 (HRR.out.below H2.out.2.1) (fl_one el_e _) HZ.out.2.2.1 HZ.out.2.2.2 ?_
  (case hs => simp [Act.eval, Act.put])
  (case hx => simp [Act.eval, Act.put])
  rw [HE.out]
  intro yo yc w3 hx hch _ hx2
  have hb3 := H2.out.2.1.trans (hch.below H2.out.2.1.size (fun k ⟨a, ha, e⟩ => e ▸ H2.out.2.2.1 a ha))
  have hpp := (Chg.of_below hb3 (fun _ => False)).heap HP.out.1 (fun h => h)
  obtain ⟨v0, v2⟩ := cellsK hpp HI.out.at1
  have H3 := Lib.hid (And.intro hx (And.intro hb3 (And.intro (fun a ha => (hx2 a ha).elim (H2.out.2.2.1 a) (fun h => Nat.le_trans H2.out.2.1.size h)) hpp)))
  clear hx hch hx2 hb3 hpp
  refine hK.out _ _ ((cellsK H3.out.2.2.2 HI.out.at1).1) (fun hHeld => ?_)
  clear hK K
  (try simp only [Act.put, List.setIfInBounds_toArray, List.set_cons_zero, List.set_cons_succ])
  refine wpAnyH_take (i := 17) (oi := { dst := some 40, op := Op.nilCheck (Operand.tmp 23), type := 0, pos := "ref.go:70", after := #[{ on := 0, ground := Ground.data }, { on := 0, ground := Ground.phase }, { on := 1, ground := Ground.phase }, { on := 2, ground := Ground.phase }, { on := 3, ground := Ground.phase }, { on := 4, ground := Ground.phase }, { on := 5, ground := Ground.phase }, { on := 6, ground := Ground.phase }, { on := 7, ground := Ground.phase }, { on := 8, ground := Ground.phase }, { on := 9, ground := Ground.phase }, { on := 10, ground := Ground.phase }, { on := 11, ground := Ground.phase }, { on := 12, ground := Ground.phase }, { on := 13, ground := Ground.phase }, { on := 14, ground := Ground.phase }, { on := 15, ground := Ground.phase }, { on := 16, ground := Ground.phase }], guard := none }) (v := ?v17) rfl (by kernel_rfl) (by kernel_rfl) (by kernel_rfl) (fun _ _ _ h => h) (Or.inl ⟨by rfl, ?hy17⟩) (by assumption) ?rest17
  case hy17 => (intro w hSw; (try dsimp only at hSw); go_simp; all_goals (with_reducible rfl))
  (try simp only [Act.put, List.setIfInBounds_toArray, List.set_cons_zero, List.set_cons_succ])
  refine wpAnyH_take (i := 18) (oi := { dst := some 41, op := Op.fieldAddr 31 (Operand.tmp 40) 0, type := 0, pos := "ref.go:70", after := #[{ on := 17, ground := Ground.data }, { on := 0, ground := Ground.phase }, { on := 1, ground := Ground.phase }, { on := 2, ground := Ground.phase }, { on := 3, ground := Ground.phase }, { on := 4, ground := Ground.phase }, { on := 5, ground := Ground.phase }, { on := 6, ground := Ground.phase }, { on := 7, ground := Ground.phase }, { on := 8, ground := Ground.phase }, { on := 9, ground := Ground.phase }, { on := 10, ground := Ground.phase }, { on := 11, ground := Ground.phase }, { on := 12, ground := Ground.phase }, { on := 13, ground := Ground.phase }, { on := 14, ground := Ground.phase }, { on := 15, ground := Ground.phase }, { on := 16, ground := Ground.phase }], guard := none }) (v := ?v18) rfl (by kernel_rfl) (by kernel_rfl) (by kernel_rfl) (fun _ _ _ h => h) (Or.inl ⟨by rfl, ?hy18⟩) (by assumption) ?rest18
  case hy18 => (intro w hSw; (try dsimp only at hSw); go_simp; all_goals (with_reducible rfl))
  (try simp only [Act.put, List.setIfInBounds_toArray, List.set_cons_zero, List.set_cons_succ])
  refine wpAnyH_done (by kernel_rfl) ?_ _
  refine last_do (o := { dst := none, op := Op.store 29 (Operand.tmp 41) (Operand.tmp 39), type := 0, pos := "ref.go:70", after := #[{ on := 18, ground := Ground.data }, { on := 16, ground := Ground.data }, { on := 16, ground := Ground.chain }, { on := 0, ground := Ground.phase }, { on := 1, ground := Ground.phase }, { on := 2, ground := Ground.phase }, { on := 3, ground := Ground.phase }, { on := 4, ground := Ground.phase }, { on := 5, ground := Ground.phase }, { on := 6, ground := Ground.phase }, { on := 7, ground := Ground.phase }, { on := 8, ground := Ground.phase }, { on := 9, ground := Ground.phase }, { on := 10, ground := Ground.phase }, { on := 11, ground := Ground.phase }, { on := 12, ground := Ground.phase }, { on := 13, ground := Ground.phase }, { on := 14, ground := Ground.phase }, { on := 15, ground := Ground.phase }, { on := 16, ground := Ground.phase }], guard := none }) rfl (fun K hK => ?_)
  go_simp
  refine hK.out _ _ ?_
  refine NoPanic.normal ?_
  all_goals go_wp2
  all_goals (
    go_ret
    refine ⟨rfl, ?_⟩
    rw [HDK.out]
    exact rtree_end (m := l.eraseIdx k) HI.out (HP.out.2.trans (H3.out.2.1.mono HP.out.2.size)) (by rw [map_erase, HI.out.map]) H3.out.1 (fun a ha => Nat.le_trans HP.out.2.size (H3.out.2.2.1 a ha)) (fun e he => .inl ((List.eraseIdx_sublist l k).subset he)))
theorem rdel_all (q : Nat) (cs : Array Value) (t : TypeId) (rs : List Pl) (G : List Nat) (key : ByteArray) (want : Nat) (w : World) (h : RTreeAt w q cs t rs G) (hn : rs.length ≤ 256) :
    Calls Tryz.prog 30 #[.pointer (some ⟨q, 1, none⟩), .string key, .int .u64 (want : Int)] w fun r w' => r = .returned (.int .i64 (delP rs key want).2) ∧ RWrote w w' q cs t (delP rs key want).1 G := by
  unfold delP
  rcases first_key rs key with hno | ⟨i, x, hx, h0, hno⟩
  · rw [look_none hno]
    refine (rdel_none q cs t rs G key _ w h hn hno).mono ?_
    rintro r w' ⟨rfl, rfl⟩
    exact ⟨rfl, .same h (Below.refl _ _)⟩
  · rw [look_first hx h0 hno]
    dsimp only
    by_cases hv : x.ver = want
    · rw [if_neg (by simpa using hv)]
      exact rdel_ok q cs t rs G key x i want w h hn hx h0 hno hv
    · rw [if_pos hv]
      refine (rdel_old q cs t rs G key x i want w h hn hx h0 hno hv).mono ?_
      rintro r w' ⟨rfl, rfl⟩
      exact ⟨rfl, .same h (Below.refl _ _)⟩
end Go.Proofs.YtackmgmaippajaaGreat.Tr
