/-
  LAYER 19: the document's list: Drop.
-/
import Derived.Test.YtmkjcjdomechfaaLaterGa
import Derived.Test.YtmkjcjdomechfaaLast
namespace Go.Proofs.Ytmkjcjdomechfaa
open Go Go.RowKit

set_option maxHeartbeats 40000000 in
set_option maxRecDepth 100000 in
theorem rdrop_to (p a b K : Nat) (l : List Wt) (F : List Nat) (w : World) (h : RListAt w p l F) (hl : l.length ≤ 4096) (hno : ∀ e ∈ l.take K, e.is a b = false) (hK : K = l.length ∨ ∃ e, l[K]? = some e ∧ e.is a b = true) :
    Calls Try.prog 13 #[.pointer (some ⟨p, 0, none⟩), .agg #[.int .u64 (a : Int), .int .u64 (b : Int)]] w fun r w' => r = .returned (.bool (decide (K < l.length))) ∧ RWrote w w' p (l.eraseIdx K) F ∧ (l.length ≤ K → Below w.heap.size w w') := by
  have hT := heap_top w (.cells #[.int .u64 (a : Int), .int .u64 (b : Int)] 32)
  have HB := Lib.hid (And.intro ((Below.refl _ w).alloc (Nat.le_refl _) (.cells #[.int .u64 (a : Int), .int .u64 (b : Int)] 32)) hT)
  obtain ⟨lo, n, cap, h1, h2, h3, hF⟩ := h
  have hn := fl_own_len el_e h2
  have hpl := heap_lt h1
  have HX := Lib.hid (And.intro h1 (And.intro h2 (And.intro h3 (And.intro hF (And.intro hno hK)))))
  rw [hn] at hl hK ⊢
  have hKn : K ≤ n := by
    rcases hK with h | ⟨e, he, _⟩
    · omega
    · have := (List.getElem?_eq_some_iff.1 he).1; omega
  have HN := Lib.hid hn
  clear h1 h2 h3 hF hno hK hn hT
  go_enter Try.func13, Try.ntmps13
  go_wp2
  go_loopg [5] K (fun g v wr => ∃ k : Nat, g + k = K ∧ v = .int .i64 k ∧ Below w.heap.size w wr ∧ wr.heap[w.heap.size]? = some (.cells #[.int .u64 (a : Int), .int .u64 (b : Int)] 32 (0, 0)))
  case atStart => exact ⟨0, by omega, rfl, HB.out⟩
  case round =>
    obtain ⟨k, hgk, rfl, hb, hT⟩ := hrel
    have hC := Chg.of_below hb (fun _ => False)
    have hp := hC.heap HX.out.1 (fun h => h)
    obtain ⟨z0, z2⟩ := cells1 hp
    obtain ⟨t0, t1, _⟩ := cells2 hT
    have ho := HX.out.2.1.keep hC (fun _ _ h => h)
    have HR := Lib.hid (And.intro hb (And.intro hT (And.intro hp ho)))
    clear hb hT hC hp
    by_cases hk : k < K
    · obtain ⟨e, he⟩ : ∃ e, l[k]? = some e := ⟨_, List.getElem?_eq_getElem (by rw [HN.out]; omega)⟩
      have hke : e.is a b = false := HX.out.2.2.2.2.1 e (List.mem_of_getElem? (i := k) (by rw [List.getElem?_take_of_lt hk]; exact he))
      obtain ⟨bb, off, rfl, q0, q1, q2⟩ := wt_at ho.row he
      have hki : (k : Int) < (n : Int) := by omega
      have hk0 : (0 : Int) ≤ (k : Int) := by omega
      have hor : ¬ (e.led : Int) = (a : Int) ∨ (e.led : Int) = (a : Int) ∧ ¬ (e.ent : Int) = (b : Int) := by
        simp [Wt.is] at hke
        omega
      clear he ho hke
      generalize (e.led : Int) = E1 at *
      generalize (e.ent : Int) = E2 at *
      rcases hor with hne | ⟨rfl, hne⟩
      · as_aux_lemma =>
          go_wp2
          go_quiet (fail)
          go_wp2
          go_roundg (gk - 1)
          case measure => omega
          case rel => exact ⟨k + 1, by omega, by go_num, bdrew HR.out.1 _, HR.out.2.1⟩
      · as_aux_lemma =>
          go_wp2
          go_quiet (fail)
          go_wp2
          go_roundg (gk - 1)
          case measure => omega
          case rel => exact ⟨k + 1, by omega, by go_num, bdrew HR.out.1 _, HR.out.2.1⟩
    · obtain rfl : k = K := by omega
      rcases HX.out.2.2.2.2.2 with hK | ⟨e, he, hid⟩
      · have hkn : k = n := by rw [hK]; exact HN.out
        have hd : decide (k < n) = false := decide_eq_false (by omega)
        have hki : decide ((k : Int) < (n : Int)) = false := decide_eq_false (by omega)
        have hkj : ¬ (k : Int) < (n : Int) := by omega
        have he : l.eraseIdx k = l := List.eraseIdx_of_length_le (by omega)
        have HD := Lib.hid (And.intro hd he)
        clear ho hd he
        as_aux_lemma =>
          go_wp2
          go_ret
          rw [show l.eraseIdx l.length = l from List.eraseIdx_of_length_le (Nat.le_refl _)]
          exact ⟨rfl, .same ⟨lo, n, cap, HX.out.1, HX.out.2.1, HX.out.2.2.1, HX.out.2.2.2.1⟩ HR.out.1, fun _ => HR.out.1⟩
      · have hkn : k < n := by have := (List.getElem?_eq_some_iff.1 he).1; have := HN.out; omega
        have HD := Lib.hid (decide_eq_true hkn)
        have HNK := Lib.hid (show ¬ n ≤ k by omega)
        obtain ⟨bb, off, rfl, q0, q1, q2⟩ := wt_at ho.row he
        have hki : (k : Int) < (n : Int) := by omega
        have hk0 : (0 : Int) ≤ (k : Int) := by omega
        have he1 : (e.led : Int) = (a : Int) := by simp [Wt.is] at hid; omega
        have he2 : (e.ent : Int) = (b : Int) := by simp [Wt.is] at hid; omega
        rw [he1] at q1
        rw [he2] at q2
        have hcap := ho.le
        have hmax := ho.max
        clear he hid he1 he2
        -- BEGIN1
        as_aux_lemma =>
          go_wp2
          go_quiet (fail)
          go_wp2
          have hb1 := bdrew HR.out.1 nq
          have hp1 : (wr.drewN nq).heap[p]? = some (.cells #[.slice (some ⟨bb, off, none⟩) n cap] 29 (0, 0)) := HR.out.2.2.1
          have ho1 : Own (wr.drewN nq) 3 (some ⟨bb, off, none⟩) n cap (l.flatMap Wt.cells) := ho.drewN nq
          generalize wr.drewN nq = W at *
          obtain ⟨y0, y2⟩ := cells1 hp1
          have d0 : W.drew.cell? ⟨p, 0, none⟩ = some (.slice (some ⟨bb, off, none⟩) n cap) := y0
          have a0 : (W.alloc (.cells #[] 45)).cell? ⟨p, 0, none⟩ = some (.slice (some ⟨bb, off, none⟩) n cap) := alloc_cell y0
          have a0' : (W.alloc (.cells #[] 45)).drew.cell? ⟨p, 0, none⟩ = some (.slice (some ⟨bb, off, none⟩) n cap) := a0
          have HO := Lib.hid (show Row W (some ⟨bb, off, none⟩) ((l.take k).flatMap Wt.cells) by rw [← fl_take el_e]; exact ho1.row.take _)
          obtain ⟨A, hA⟩ : ∃ A : Option Addr, (if cap = k + 1 then some (⟨bb, off, none⟩ : Addr) else some ⟨bb, off + (k + 1) * 3, none⟩) = A := ⟨_, rfl⟩
          have HRR := Lib.hid (show Row W A _ by rw [← hA]; exact fl_row el_e ho1 HN.out (k + 1))
          have HL := Lib.hid (And.intro (show ((l.take k).flatMap Wt.cells).length = k * 3 by rw [fl_len el_e, List.length_take]; have := HN.out; congr 1; omega) (show ((l.drop (k + 1)).flatMap Wt.cells).length = (n - (k + 1)) * 3 by rw [fl_len el_e, List.length_drop, HN.out]))
          have HE := Lib.hid (show (l.take k).flatMap Wt.cells ++ (l.drop (k + 1)).flatMap Wt.cells = (l.eraseIdx k).flatMap Wt.cells by rw [← List.flatMap_append, List.eraseIdx_eq_take_drop_succ])
          have HP := Lib.hid (And.intro hp1 hb1)
          have hic : k ≤ cap := by omega
          have hic' : (k : Int) ≤ (cap : Int) := by omega
          have hic2 : (k : Int) ≤ (n : Int) := by omega
          have hp0 : (0 : Int) ≤ (k : Int) + 1 := by omega
          have hpp1 : (k : Int) + 1 ≤ (n : Int) := by omega
          have hp2 : ((k : Int) + 1).toNat = k + 1 := by omega
          have hp3 : (n : Int) ≤ (cap : Int) := by omega
          have hw := IntWalk.i64_in ((k : Int) + 1) (by omega)
          have HZ := Lib.hid (show 0 + k ≤ maxLen ∧ (0 + k) * 24 ≤ 140737488355328 ∧ k + (n - (k + 1)) ≤ maxLen ∧ (k + (n - (k + 1))) * 24 ≤ 140737488355328 from ⟨by unfold maxLen; omega, by omega, by unfold maxLen; omega, by omega⟩)
          clear hp1 ho1 hb1 ho q0 q1 q2 t0 t1 z0 z2 y0
          go_upto_region 5 with fail
          refine wp_region_noPanic ?_
          refine wp_region_last (n := 19) (m := 19) (S := fun wx => wx.cell? ⟨p, 0, none⟩ = some (.slice (some ⟨bb, off, none⟩) n cap)) (by kernel_rfl) rfl rfl (by kernel_rfl) d0 (fun hHeld => ?_)
          refine wpAnyH_take (i := 0) (oi := { dst := some 25, op := Op.move (Operand.tmp 0), type := 26, pos := "ref.go:399", after := #[], guard := none }) (v := ?v0) rfl (by kernel_rfl) (by kernel_rfl) (by kernel_rfl) (fun _ _ _ h => h) (Or.inl ⟨by rfl, ?hy0⟩) (by assumption) ?rest0
          case hy0 => (intro w hSw; (try dsimp only at hSw); go_simp; all_goals (with_reducible rfl))
          (try simp only [Act.put, List.setIfInBounds_toArray, List.set_cons_zero, List.set_cons_succ])
          refine wpAnyH_take (i := 2) (oi := { dst := some 27, op := Op.move (Operand.tmp 0), type := 26, pos := "ref.go:399", after := #[], guard := none }) (v := ?v2) rfl (by kernel_rfl) (by kernel_rfl) (by kernel_rfl) (fun _ _ _ h => h) (Or.inl ⟨by rfl, ?hy2⟩) (by assumption) ?rest2
          case hy2 => (intro w hSw; (try dsimp only at hSw); go_simp; all_goals (with_reducible rfl))
          (try simp only [Act.put, List.setIfInBounds_toArray, List.set_cons_zero, List.set_cons_succ])
          refine wpAnyH_take (i := 3) (oi := { dst := some 28, op := Op.nilCheck (Operand.tmp 27), type := 0, pos := "ref.go:399", after := #[{ on := 2, ground := Ground.data }], guard := none }) (v := ?v3) rfl (by kernel_rfl) (by kernel_rfl) (by kernel_rfl) (fun _ _ _ h => h) (Or.inl ⟨by rfl, ?hy3⟩) (by assumption) ?rest3
          case hy3 => (intro w hSw; (try dsimp only at hSw); go_simp; all_goals (with_reducible rfl))
          (try simp only [Act.put, List.setIfInBounds_toArray, List.set_cons_zero, List.set_cons_succ])
          refine wpAnyH_take (i := 4) (oi := { dst := some 29, op := Op.fieldAddr 29 (Operand.tmp 28) 0, type := 0, pos := "ref.go:399", after := #[{ on := 3, ground := Ground.data }], guard := none }) (v := ?v4) rfl (by kernel_rfl) (by kernel_rfl) (by kernel_rfl) (fun _ _ _ h => h) (Or.inl ⟨by rfl, ?hy4⟩) (by assumption) ?rest4
          case hy4 => (intro w hSw; (try dsimp only at hSw); go_simp; all_goals (with_reducible rfl))
          (try simp only [Act.put, List.setIfInBounds_toArray, List.set_cons_zero, List.set_cons_succ])
          refine wpAnyH_take (i := 5) (oi := { dst := some 30, op := Op.load 27 (Operand.tmp 29), type := 27, pos := "ref.go:399", after := #[{ on := 4, ground := Ground.data }], guard := none }) (v := ?v5) rfl (by kernel_rfl) (by kernel_rfl) (by kernel_rfl) (fun _ _ _ h => h) (Or.inl ⟨by rfl, ?hy5⟩) (by assumption) ?rest5
          case hy5 => (intro w hSw; (try dsimp only at hSw); go_simp; all_goals (with_reducible rfl))
          (try simp only [Act.put, List.setIfInBounds_toArray, List.set_cons_zero, List.set_cons_succ])
          refine wpAnyH_take (i := 6) (oi := { dst := some 31, op := Op.move (Operand.tmp 5), type := 3, pos := "ref.go:399", after := #[], guard := none }) (v := ?v6) rfl (by kernel_rfl) (by kernel_rfl) (by kernel_rfl) (fun _ _ _ h => h) (Or.inl ⟨by rfl, ?hy6⟩) (by assumption) ?rest6
          case hy6 => (intro w hSw; (try dsimp only at hSw); go_simp; all_goals (with_reducible rfl))
          (try simp only [Act.put, List.setIfInBounds_toArray, List.set_cons_zero, List.set_cons_succ])
          refine wpAnyH_take (i := 7) (oi := { dst := some 32, op := Op.slice 27 (Operand.tmp 30) none (some (Operand.tmp 31)) none, type := 27, pos := "ref.go:399", after := #[{ on := 5, ground := Ground.data }, { on := 6, ground := Ground.data }], guard := none }) (v := ?v7) rfl (by kernel_rfl) (by kernel_rfl) (by kernel_rfl) (fun _ _ _ h => h) (Or.inl ⟨by rfl, ?hy7⟩) (by assumption) ?rest7
          case hy7 => (intro w hSw; (try dsimp only at hSw); go_simp; all_goals (with_reducible rfl))
          (try simp only [Act.put, List.setIfInBounds_toArray, List.set_cons_zero, List.set_cons_succ])
          refine wpAnyH_take (i := 9) (oi := { dst := some 34, op := Op.move (Operand.tmp 0), type := 26, pos := "ref.go:399", after := #[], guard := none }) (v := ?v9) rfl (by kernel_rfl) (by kernel_rfl) (by kernel_rfl) (fun _ _ _ h => h) (Or.inl ⟨by rfl, ?hy9⟩) (by assumption) ?rest9
          case hy9 => (intro w hSw; (try dsimp only at hSw); go_simp; all_goals (with_reducible rfl))
          (try simp only [Act.put, List.setIfInBounds_toArray, List.set_cons_zero, List.set_cons_succ])
          refine wpAnyH_take (i := 10) (oi := { dst := some 35, op := Op.nilCheck (Operand.tmp 34), type := 0, pos := "ref.go:399", after := #[{ on := 9, ground := Ground.data }], guard := none }) (v := ?v10) rfl (by kernel_rfl) (by kernel_rfl) (by kernel_rfl) (fun _ _ _ h => h) (Or.inl ⟨by rfl, ?hy10⟩) (by assumption) ?rest10
          case hy10 => (intro w hSw; (try dsimp only at hSw); go_simp; all_goals (with_reducible rfl))
          (try simp only [Act.put, List.setIfInBounds_toArray, List.set_cons_zero, List.set_cons_succ])
          refine wpAnyH_take (i := 11) (oi := { dst := some 36, op := Op.fieldAddr 29 (Operand.tmp 35) 0, type := 0, pos := "ref.go:399", after := #[{ on := 10, ground := Ground.data }], guard := none }) (v := ?v11) rfl (by kernel_rfl) (by kernel_rfl) (by kernel_rfl) (fun _ _ _ h => h) (Or.inl ⟨by rfl, ?hy11⟩) (by assumption) ?rest11
          case hy11 => (intro w hSw; (try dsimp only at hSw); go_simp; all_goals (with_reducible rfl))
          (try simp only [Act.put, List.setIfInBounds_toArray, List.set_cons_zero, List.set_cons_succ])
          refine wpAnyH_take (i := 12) (oi := { dst := some 37, op := Op.load 27 (Operand.tmp 36), type := 27, pos := "ref.go:399", after := #[{ on := 11, ground := Ground.data }], guard := none }) (v := ?v12) rfl (by kernel_rfl) (by kernel_rfl) (by kernel_rfl) (fun _ _ _ h => h) (Or.inl ⟨by rfl, ?hy12⟩) (by assumption) ?rest12
          case hy12 => (intro w hSw; (try dsimp only at hSw); go_simp; all_goals (with_reducible rfl))
          (try simp only [Act.put, List.setIfInBounds_toArray, List.set_cons_zero, List.set_cons_succ])
          refine wpAnyH_take (i := 13) (oi := { dst := some 38, op := Op.move (Operand.tmp 5), type := 3, pos := "ref.go:399", after := #[], guard := none }) (v := ?v13) rfl (by kernel_rfl) (by kernel_rfl) (by kernel_rfl) (fun _ _ _ h => h) (Or.inl ⟨by rfl, ?hy13⟩) (by assumption) ?rest13
          case hy13 => (intro w hSw; (try dsimp only at hSw); go_simp; all_goals (with_reducible rfl))
          (try simp only [Act.put, List.setIfInBounds_toArray, List.set_cons_zero, List.set_cons_succ])
          refine wpAnyH_take (i := 14) (oi := { dst := some 39, op := Op.binOp BinOp.add 3 (Operand.tmp 38) (Operand.const (Value.int IntKind.i64 1)) 3, type := 3, pos := "ref.go:399", after := #[{ on := 13, ground := Ground.data }], guard := none }) (v := ?v14) rfl (by kernel_rfl) (by kernel_rfl) (by kernel_rfl) (fun _ _ _ h => h) (Or.inl ⟨by rfl, ?hy14⟩) (by assumption) ?rest14
          case hy14 => (intro w hSw; (try dsimp only at hSw); go_simp; all_goals (with_reducible rfl))
          (try simp only [Act.put, List.setIfInBounds_toArray, List.set_cons_zero, List.set_cons_succ])
          refine wpAnyH_take (i := 15) (oi := { dst := some 40, op := Op.slice 27 (Operand.tmp 37) (some (Operand.tmp 39)) none none, type := 27, pos := "ref.go:399", after := #[{ on := 12, ground := Ground.data }, { on := 14, ground := Ground.data }], guard := none }) (v := ?v15) rfl (by kernel_rfl) (by kernel_rfl) (by kernel_rfl) (fun _ _ _ h => h) (Or.inl ⟨by rfl, ?hy15⟩) (by assumption) ?rest15
          case hy15 => (intro w hSw; (try dsimp only at hSw); go_simp; all_goals (with_reducible rfl))
          (try simp only [Act.put, List.setIfInBounds_toArray, List.set_cons_zero, List.set_cons_succ])
          refine wpAnyH_ready (rs := [1]) (by kernel_rfl) (by simp) ?_
          refine AllReadyH.cons (o := { dst := some 26, op := Op.buildSlice 27 0 #[], type := 27, pos := "ref.go:399", after := #[], guard := none }) rfl (fun K hK => ?_) AllReadyH.nil
          go_simp
          refine hK.out _ _ (a0') (fun hHeld => ?_)
          clear hK K
          (try simp only [Act.put, List.setIfInBounds_toArray, List.set_cons_zero, List.set_cons_succ])
          refine wpAnyH_ready (rs := [8]) (by kernel_rfl) (by simp) ?_
          refine AllReadyH.cons (o := { dst := some 33, op := Op.call { callee := Callee.builtin Builtin.append, args := #[Operand.tmp 26, Operand.tmp 32], argTypes := #[27, 27] }, type := 27, pos := "ref.go:399", after := #[{ on := 1, ground := Ground.data }, { on := 7, ground := Ground.data }], guard := none }) rfl (fun K hK => ?_) AllReadyH.nil
          refine step_append' rfl (.tmp 26) (.tmp 32) el_s rfl (c := cap) ?hs ?hx (Own.alloc0 W 3 _ _).drew HL.out.1 (HO.out.below ((Below.refl _ W).alloc (Nat.le_refl _) _)).drew (fl_one el_e _) HZ.out.1 HZ.out.2.1 ?_
          (case hs => simp [Act.eval, Act.put])
          (case hx => simp [Act.eval, Act.put])
          simp only [Nat.zero_add, List.nil_append]
          intro xo xc w2 hx hch _ hx2
          have hb2 := chg_new (Below.refl _ _) hch.undrew
          have hf2 := new_blk (Below.refl _ W) hx2
          have hpp := (Chg.of_below hb2 (fun _ => False)).heap HP.out.1 (fun h => h)
          obtain ⟨yy0, yy2⟩ := cells1 hpp
          have H2 := Lib.hid (And.intro hx (And.intro hb2 (And.intro hf2 hpp)))
          clear hx hch hx2 hb2 hf2 hpp
          refine hK.out _ _ ((cells1 H2.out.2.2.2).1) (fun hHeld => ?_)
          clear hK K
          (try simp only [Act.put, List.setIfInBounds_toArray, List.set_cons_zero, List.set_cons_succ])
          refine wpAnyH_ready (rs := [16]) (by kernel_rfl) (by simp) ?_
          refine AllReadyH.cons (o := { dst := some 41, op := Op.call { callee := Callee.builtin Builtin.append, args := #[Operand.tmp 33, Operand.tmp 40], argTypes := #[27, 27] }, type := 27, pos := "ref.go:399", after := #[{ on := 8, ground := Ground.data }, { on := 15, ground := Ground.data }, { on := 8, ground := Ground.chain }], guard := none }) rfl (fun K hK => ?_) AllReadyH.nil
          refine step_append' rfl (.tmp 33) (.tmp 40) el_s rfl (c := cap - (k + 1)) ?hs ?hx H2.out.1 HL.out.2 (HRR.out.below H2.out.2.1) (fl_one el_e _) HZ.out.2.2.1 HZ.out.2.2.2 ?_
          (case hs => simp [Act.eval, Act.put])
          (case hx => simp [Act.eval, Act.put])
          rw [HE.out]
          intro yo yc w3 hx hch _ hx2
          have hb3 := H2.out.2.1.trans (hch.below H2.out.2.1.size (fun k ⟨a, ha, e⟩ => e ▸ H2.out.2.2.1 a ha))
          have hpp := (Chg.of_below hb3 (fun _ => False)).heap HP.out.1 (fun h => h)
          obtain ⟨v0, v2⟩ := cells1 hpp
          have H3 := Lib.hid (And.intro hx (And.intro hb3 (And.intro (fun a ha => (hx2 a ha).elim (H2.out.2.2.1 a) (fun h => Nat.le_trans H2.out.2.1.size h)) hpp)))
          clear hx hch hx2 hb3 hpp
          refine hK.out _ _ ((cells1 H3.out.2.2.2).1) (fun hHeld => ?_)
          clear hK K
          (try simp only [Act.put, List.setIfInBounds_toArray, List.set_cons_zero, List.set_cons_succ])
          refine wpAnyH_take (i := 17) (oi := { dst := some 42, op := Op.nilCheck (Operand.tmp 25), type := 0, pos := "ref.go:399", after := #[{ on := 0, ground := Ground.data }, { on := 0, ground := Ground.phase }, { on := 1, ground := Ground.phase }, { on := 2, ground := Ground.phase }, { on := 3, ground := Ground.phase }, { on := 4, ground := Ground.phase }, { on := 5, ground := Ground.phase }, { on := 6, ground := Ground.phase }, { on := 7, ground := Ground.phase }, { on := 8, ground := Ground.phase }, { on := 9, ground := Ground.phase }, { on := 10, ground := Ground.phase }, { on := 11, ground := Ground.phase }, { on := 12, ground := Ground.phase }, { on := 13, ground := Ground.phase }, { on := 14, ground := Ground.phase }, { on := 15, ground := Ground.phase }, { on := 16, ground := Ground.phase }], guard := none }) (v := ?v17) rfl (by kernel_rfl) (by kernel_rfl) (by kernel_rfl) (fun _ _ _ h => h) (Or.inl ⟨by rfl, ?hy17⟩) (by assumption) ?rest17
          case hy17 => (intro w hSw; (try dsimp only at hSw); go_simp; all_goals (with_reducible rfl))
          (try simp only [Act.put, List.setIfInBounds_toArray, List.set_cons_zero, List.set_cons_succ])
          refine wpAnyH_take (i := 18) (oi := { dst := some 43, op := Op.fieldAddr 29 (Operand.tmp 42) 0, type := 0, pos := "ref.go:399", after := #[{ on := 17, ground := Ground.data }, { on := 0, ground := Ground.phase }, { on := 1, ground := Ground.phase }, { on := 2, ground := Ground.phase }, { on := 3, ground := Ground.phase }, { on := 4, ground := Ground.phase }, { on := 5, ground := Ground.phase }, { on := 6, ground := Ground.phase }, { on := 7, ground := Ground.phase }, { on := 8, ground := Ground.phase }, { on := 9, ground := Ground.phase }, { on := 10, ground := Ground.phase }, { on := 11, ground := Ground.phase }, { on := 12, ground := Ground.phase }, { on := 13, ground := Ground.phase }, { on := 14, ground := Ground.phase }, { on := 15, ground := Ground.phase }, { on := 16, ground := Ground.phase }], guard := none }) (v := ?v18) rfl (by kernel_rfl) (by kernel_rfl) (by kernel_rfl) (fun _ _ _ h => h) (Or.inl ⟨by rfl, ?hy18⟩) (by assumption) ?rest18
          case hy18 => (intro w hSw; (try dsimp only at hSw); go_simp; all_goals (with_reducible rfl))
          (try simp only [Act.put, List.setIfInBounds_toArray, List.set_cons_zero, List.set_cons_succ])
          refine wpAnyH_done (by kernel_rfl) ?_ _
          refine last_do (o := { dst := none, op := Op.store 27 (Operand.tmp 43) (Operand.tmp 41), type := 0, pos := "ref.go:399", after := #[{ on := 18, ground := Ground.data }, { on := 16, ground := Ground.data }, { on := 16, ground := Ground.chain }, { on := 0, ground := Ground.phase }, { on := 1, ground := Ground.phase }, { on := 2, ground := Ground.phase }, { on := 3, ground := Ground.phase }, { on := 4, ground := Ground.phase }, { on := 5, ground := Ground.phase }, { on := 6, ground := Ground.phase }, { on := 7, ground := Ground.phase }, { on := 8, ground := Ground.phase }, { on := 9, ground := Ground.phase }, { on := 10, ground := Ground.phase }, { on := 11, ground := Ground.phase }, { on := 12, ground := Ground.phase }, { on := 13, ground := Ground.phase }, { on := 14, ground := Ground.phase }, { on := 15, ground := Ground.phase }, { on := 16, ground := Ground.phase }], guard := none }) rfl (fun K hK => ?_)
          go_simp
          refine hK.out _ _ ?_
          refine NoPanic.normal ?_
          all_goals go_wp2
          all_goals (
            go_ret
            try rw [HD.out]
            exact ⟨rfl, rend (by rw [HX.out.2.2.2.1]; simp) (Chg.of_below HP.out.2 _) H3.out.2.2.2 H3.out.2.1 H3.out.1 (fun a ha => Nat.le_trans HP.out.2.size (H3.out.2.2.1 a ha)) hpl, fun h => absurd h (HNK.out)⟩)
        -- END1
theorem rdrop_all (p a b : Nat) (l : List Wt) (F : List Nat) (w : World) (h : RListAt w p l F) (hl : l.length ≤ 4096) :
    Calls Try.prog 13 #[.pointer (some ⟨p, 0, none⟩), .agg #[.int .u64 (a : Int), .int .u64 (b : Int)]] w fun r w' => r = .returned (.bool (dropL l a b).2) ∧ RWrote w w' p (dropL l a b).1 F ∧ ((dropL l a b).2 = false → Below w.heap.size w w') := by
  rcases who l a b with h1 | ⟨i, e, he, hid, hno⟩
  · rw [dropL_none h1]
    refine (rdrop_to p a b l.length l F w h hl (fun e he => h1 e (List.mem_of_mem_take he)) (.inl rfl)).mono ?_
    rintro r w' ⟨rfl, h2, h3⟩
    rw [List.eraseIdx_of_length_le (Nat.le_refl _)] at h2
    exact ⟨by simp, h2, fun _ => h3 (Nat.le_refl _)⟩
  · rw [dropL_some he hid hno]
    refine (rdrop_to p a b i l F w h hl hno (.inr ⟨e, he, hid⟩)).mono ?_
    rintro r w' ⟨rfl, h2, _⟩
    exact ⟨by rw [decide_eq_true (List.getElem?_eq_some_iff.1 he).1], h2, fun h => nomatch h⟩
end Go.Proofs.Ytmkjcjdomechfaa
