/-
  LAYER 8: shows: the keeper's state and the document's.
-/
import Derived.Test.YtackmgmaippajaaGreatRd
namespace Go.Proofs.YtackmgmaippajaaGreat
open Go Go.RowKit

theorem len_pl {es fs : List Nd} (h : es.map Nd.pl = fs.map Nd.pl) : es.length = fs.length := by
  have := congrArg List.length h
  rwa [List.length_map, List.length_map] at this
-- BEGIN1
set_option maxHeartbeats 4000000 in
set_option maxRecDepth 100000 in
theorem shows_any (k p kp bp j id q : Nat) (s sd : St) (d : Jr.Dsk) (F1 F2 Gk : List Nat) (cs : Array Value) (t : TypeId) (G F : List Nat) (w : World) (h : KeepAt w k p s d kp bp j F1 F2 Gk) (hR : RsAt w q cs t sd G F) (hL : LikeS s sd) (hs : s.Wk) :
    Calls Tryz.prog 23 #[.pointer (some ⟨k, 0, none⟩), .pointer (some ⟨q, 0, none⟩), .int .u64 (id : Int)] w fun e w' => e = .returned (.bool true) ∧ Below w.heap.size w w' := by
  have hl1000 : s.l.length ≤ 1000000 := Nat.le_trans hs.len (by decide)
  have hn256 : sd.ps.length ≤ 256 := (hL.wr hs).many
  have hso := hs.fine.sorted
  have z0 : w.drew.cell? ⟨q, 0, none⟩ = some (.int .u64 (s.now : Int)) := by rw [hL.now]; exact hR.cell.1
  have HW := Lib.hid (And.intro (h.stays (Below.refl _ _).drew) (hR.stays (Below.refl _ _).drew))
  have HS := Lib.hid (And.intro (Tr.sort_like hL.ps hso ⟨#[]⟩) (Tr.sort_like hL.ps hso ⟨#[111, 119, 110]⟩))
  have HF := Lib.hid hs.fine
  have HLE := Lib.hid (show (Tr.listP s.ps ⟨#[]⟩).length ≤ 1000000 ∧ (Tr.listP s.ps ⟨#[111, 119, 110]⟩).length ≤ 1000000 from by
    have h1 : s.ps.length ≤ 256 := hs.fine.len
    exact ⟨Nat.le_trans (List.length_filter_le ..) (by omega), Nat.le_trans (List.length_filter_le ..) (by omega)⟩)
  have hnow := hL.now
  have hll := hL.l
  have HNL := Lib.hid (And.intro hnow hll)
  clear h hR hL hs hso hnow hll
  go_enter Tryz.func23, Tryz.ntmps23
  go_upto_region 1 with fail
  -- HAND1
  refine wp_region_held_drew (S := fun wx => wx.cell? ⟨q, 0, none⟩ = some (.int .u64 (s.now : Int))) (by kernel_rfl) z0 (fun hHeld => ?_)
  refine wpAnyH_take (i := 0) (oi := { dst := some 7, op := Op.move (Operand.tmp 0), type := 54, pos := "law.go:37", after := #[], guard := none }) (v := ?v0x1) rfl (by kernel_rfl) (by kernel_rfl) (by kernel_rfl) (fun _ _ _ h => h) (Or.inl ⟨by rfl, ?hy0x1⟩) (by assumption) ?rest0x1
  case hy0x1 => (intro w hSw; (try dsimp only at hSw); go_simp; all_goals (with_reducible rfl))
  (try simp only [Act.put, List.setIfInBounds_toArray, List.set_cons_zero, List.set_cons_succ])
  refine wpAnyH_take (i := 2) (oi := { dst := some 9, op := Op.move (Operand.tmp 1), type := 27, pos := "law.go:37", after := #[], guard := none }) (v := ?v2x2) rfl (by kernel_rfl) (by kernel_rfl) (by kernel_rfl) (fun _ _ _ h => h) (Or.inl ⟨by rfl, ?hy2x2⟩) (by assumption) ?rest2x2
  case hy2x2 => (intro w hSw; (try dsimp only at hSw); go_simp; all_goals (with_reducible rfl))
  (try simp only [Act.put, List.setIfInBounds_toArray, List.set_cons_zero, List.set_cons_succ])
  refine wpAnyH_take (i := 3) (oi := { dst := some 10, op := Op.nilCheck (Operand.tmp 9), type := 0, pos := "law.go:37", after := #[{ on := 2, ground := Ground.data }], guard := none }) (v := ?v3x3) rfl (by kernel_rfl) (by kernel_rfl) (by kernel_rfl) (fun _ _ _ h => h) (Or.inl ⟨by rfl, ?hy3x3⟩) (by assumption) ?rest3x3
  case hy3x3 => (intro w hSw; (try dsimp only at hSw); go_simp; all_goals (with_reducible rfl))
  (try simp only [Act.put, List.setIfInBounds_toArray, List.set_cons_zero, List.set_cons_succ])
  refine wpAnyH_take (i := 4) (oi := { dst := some 11, op := Op.fieldAddr 36 (Operand.tmp 10) 0, type := 0, pos := "law.go:37", after := #[{ on := 3, ground := Ground.data }], guard := none }) (v := ?v4x4) rfl (by kernel_rfl) (by kernel_rfl) (by kernel_rfl) (fun _ _ _ h => h) (Or.inl ⟨by rfl, ?hy4x4⟩) (by assumption) ?rest4x4
  case hy4x4 => (intro w hSw; (try dsimp only at hSw); go_simp; all_goals (with_reducible rfl))
  (try simp only [Act.put, List.setIfInBounds_toArray, List.set_cons_zero, List.set_cons_succ])
  refine wpAnyH_take (i := 5) (oi := { dst := some 12, op := Op.load 28 (Operand.tmp 11), type := 28, pos := "law.go:37", after := #[{ on := 4, ground := Ground.data }], guard := none }) (v := ?v5x5) rfl (by kernel_rfl) (by kernel_rfl) (by kernel_rfl) (fun _ _ _ h => h) (Or.inl ⟨by rfl, ?hy5x5⟩) (by assumption) ?rest5x5
  case hy5x5 => (intro w hSw; (try dsimp only at hSw); go_simp; all_goals (with_reducible rfl))
  (try simp only [Act.put, List.setIfInBounds_toArray, List.set_cons_zero, List.set_cons_succ])
  refine wpAnyH_ready (rs := [1]) (by kernel_rfl) (by simp) ?_
  refine AllReadyH.cons (o := { dst := some 8, op := Op.call { callee := Callee.value (Operand.func 16), args := #[Operand.tmp 7], argTypes := #[54] }, type := 28, pos := "law.go:37", after := #[{ on := 0, ground := Ground.data }], guard := none }) rfl (fun K hK => ?_) AllReadyH.nil
  go_simp
  go_at_call 16
  (with_reducible refine (keeper_now k p kp bp j s d F1 F2 Gk _ HW.out.1).mono ?_)
  rintro e w1 ⟨rfl, rfl⟩
  go_wp2_with fail
  refine hK.out _ _ (z0) (fun hHeld => ?_)
  clear hK K
  (try simp only [Act.put, List.setIfInBounds_toArray, List.set_cons_zero, List.set_cons_succ])
  refine wpAnyH_take (i := 6) (oi := { dst := some 13, op := Op.binOp BinOp.eql 28 (Operand.tmp 8) (Operand.tmp 12) 28, type := 4, pos := "law.go:37", after := #[{ on := 1, ground := Ground.data }, { on := 5, ground := Ground.data }], guard := none }) (v := ?v6x7) rfl (by kernel_rfl) (by kernel_rfl) (by kernel_rfl) (fun _ _ _ h => h) (Or.inl ⟨by rfl, ?hy6x7⟩) (by assumption) ?rest6x7
  case hy6x7 => (intro w hSw; (try dsimp only at hSw); go_simp; all_goals (with_reducible rfl))
  (try simp only [Act.put, List.setIfInBounds_toArray, List.set_cons_zero, List.set_cons_succ])
  refine wpAnyH_take (i := 7) (oi := { dst := some 14, op := Op.move (Operand.tmp 13), type := 4, pos := "law.go:37", after := #[{ on := 6, ground := Ground.data }, { on := 1, ground := Ground.chain }], guard := none }) (v := ?v7x8) rfl (by kernel_rfl) (by kernel_rfl) (by kernel_rfl) (fun _ _ _ h => h) (Or.inl ⟨by rfl, ?hy7x8⟩) (by assumption) ?rest7x8
  case hy7x8 => (intro w hSw; (try dsimp only at hSw); go_simp; all_goals (with_reducible rfl))
  (try simp only [Act.put, List.setIfInBounds_toArray, List.set_cons_zero, List.set_cons_succ])
  refine wpAnyH_take (i := 8) (oi := { dst := some 15, op := Op.move (Operand.tmp 0), type := 54, pos := "law.go:37", after := #[{ on := 7, ground := Ground.guard }], guard := some (7, true) }) (v := ?v8x9) rfl (by kernel_rfl) (by kernel_rfl) (by kernel_rfl) (fun _ _ _ h => h) (Or.inl ⟨by rfl, ?hy8x9⟩) (by assumption) ?rest8x9
  case hy8x9 => (intro w hSw; (try dsimp only at hSw); go_simp; all_goals (with_reducible rfl))
  (try simp only [Act.put, List.setIfInBounds_toArray, List.set_cons_zero, List.set_cons_succ])
  refine wpAnyH_take (i := 9) (oi := { dst := some 16, op := Op.move (Operand.tmp 2), type := 28, pos := "law.go:37", after := #[{ on := 7, ground := Ground.guard }], guard := some (7, true) }) (v := ?v9x10) rfl (by kernel_rfl) (by kernel_rfl) (by kernel_rfl) (fun _ _ _ h => h) (Or.inl ⟨by rfl, ?hy9x10⟩) (by assumption) ?rest9x10
  case hy9x10 => (intro w hSw; (try dsimp only at hSw); go_simp; all_goals (with_reducible rfl))
  (try simp only [Act.put, List.setIfInBounds_toArray, List.set_cons_zero, List.set_cons_succ])
  refine wpAnyH_take (i := 11) (oi := { dst := some 18, op := Op.move (Operand.tmp 1), type := 27, pos := "law.go:37", after := #[{ on := 7, ground := Ground.guard }], guard := some (7, true) }) (v := ?v11x11) rfl (by kernel_rfl) (by kernel_rfl) (by kernel_rfl) (fun _ _ _ h => h) (Or.inl ⟨by rfl, ?hy11x11⟩) (by assumption) ?rest11x11
  case hy11x11 => (intro w hSw; (try dsimp only at hSw); go_simp; all_goals (with_reducible rfl))
  (try simp only [Act.put, List.setIfInBounds_toArray, List.set_cons_zero, List.set_cons_succ])
  refine wpAnyH_take (i := 12) (oi := { dst := some 19, op := Op.nilCheck (Operand.tmp 18), type := 0, pos := "law.go:37", after := #[{ on := 11, ground := Ground.data }, { on := 7, ground := Ground.guard }], guard := some (7, true) }) (v := ?v12x12) rfl (by kernel_rfl) (by kernel_rfl) (by kernel_rfl) (fun _ _ _ h => h) (Or.inl ⟨by rfl, ?hy12x12⟩) (by assumption) ?rest12x12
  case hy12x12 => (intro w hSw; (try dsimp only at hSw); go_simp; all_goals (with_reducible rfl))
  (try simp only [Act.put, List.setIfInBounds_toArray, List.set_cons_zero, List.set_cons_succ])
  refine wpAnyH_take (i := 13) (oi := { dst := some 20, op := Op.fieldAddr 36 (Operand.tmp 19) 2, type := 0, pos := "law.go:37", after := #[{ on := 12, ground := Ground.data }, { on := 7, ground := Ground.guard }], guard := some (7, true) }) (v := ?v13x13) rfl (by kernel_rfl) (by kernel_rfl) (by kernel_rfl) (fun _ _ _ h => h) (Or.inl ⟨by rfl, ?hy13x13⟩) (by assumption) ?rest13x13
  case hy13x13 => (intro w hSw; (try dsimp only at hSw); go_simp; all_goals (with_reducible rfl))
  (try simp only [Act.put, List.setIfInBounds_toArray, List.set_cons_zero, List.set_cons_succ])
  refine wpAnyH_take (i := 14) (oi := { dst := some 21, op := Op.move (Operand.tmp 2), type := 28, pos := "law.go:37", after := #[{ on := 7, ground := Ground.guard }], guard := some (7, true) }) (v := ?v14x14) rfl (by kernel_rfl) (by kernel_rfl) (by kernel_rfl) (fun _ _ _ h => h) (Or.inl ⟨by rfl, ?hy14x14⟩) (by assumption) ?rest14x14
  case hy14x14 => (intro w hSw; (try dsimp only at hSw); go_simp; all_goals (with_reducible rfl))
  (try simp only [Act.put, List.setIfInBounds_toArray, List.set_cons_zero, List.set_cons_succ])
  refine wpAnyH_take (i := 15) (oi := { dst := some 22, op := Op.move (Operand.tmp 1), type := 27, pos := "law.go:37", after := #[{ on := 7, ground := Ground.guard }], guard := some (7, true) }) (v := ?v15x15) rfl (by kernel_rfl) (by kernel_rfl) (by kernel_rfl) (fun _ _ _ h => h) (Or.inl ⟨by rfl, ?hy15x15⟩) (by assumption) ?rest15x15
  case hy15x15 => (intro w hSw; (try dsimp only at hSw); go_simp; all_goals (with_reducible rfl))
  (try simp only [Act.put, List.setIfInBounds_toArray, List.set_cons_zero, List.set_cons_succ])
  refine wpAnyH_take (i := 16) (oi := { dst := some 23, op := Op.nilCheck (Operand.tmp 22), type := 0, pos := "law.go:37", after := #[{ on := 15, ground := Ground.data }, { on := 7, ground := Ground.guard }], guard := some (7, true) }) (v := ?v16x16) rfl (by kernel_rfl) (by kernel_rfl) (by kernel_rfl) (fun _ _ _ h => h) (Or.inl ⟨by rfl, ?hy16x16⟩) (by assumption) ?rest16x16
  case hy16x16 => (intro w hSw; (try dsimp only at hSw); go_simp; all_goals (with_reducible rfl))
  (try simp only [Act.put, List.setIfInBounds_toArray, List.set_cons_zero, List.set_cons_succ])
  refine wpAnyH_take (i := 17) (oi := { dst := some 24, op := Op.fieldAddr 36 (Operand.tmp 23) 0, type := 0, pos := "law.go:37", after := #[{ on := 16, ground := Ground.data }, { on := 7, ground := Ground.guard }], guard := some (7, true) }) (v := ?v17x17) rfl (by kernel_rfl) (by kernel_rfl) (by kernel_rfl) (fun _ _ _ h => h) (Or.inl ⟨by rfl, ?hy17x17⟩) (by assumption) ?rest17x17
  case hy17x17 => (intro w hSw; (try dsimp only at hSw); go_simp; all_goals (with_reducible rfl))
  (try simp only [Act.put, List.setIfInBounds_toArray, List.set_cons_zero, List.set_cons_succ])
  refine wpAnyH_take (i := 18) (oi := { dst := some 25, op := Op.load 28 (Operand.tmp 24), type := 28, pos := "law.go:37", after := #[{ on := 17, ground := Ground.data }, { on := 7, ground := Ground.guard }], guard := some (7, true) }) (v := ?v18x18) rfl (by kernel_rfl) (by kernel_rfl) (by kernel_rfl) (fun _ _ _ h => h) (Or.inl ⟨by rfl, ?hy18x18⟩) (by assumption) ?rest18x18
  case hy18x18 => (intro w hSw; (try dsimp only at hSw); go_simp; all_goals (with_reducible rfl))
  (try simp only [Act.put, List.setIfInBounds_toArray, List.set_cons_zero, List.set_cons_succ])
  refine wpAnyH_ready (rs := [10]) (by kernel_rfl) (by simp) ?_
  refine AllReadyH.cons (o := { dst := some 17, op := Op.call { callee := Callee.value (Operand.func 52), args := #[Operand.tmp 15, Operand.tmp 16], argTypes := #[54, 28] }, type := 4, pos := "law.go:37", after := #[{ on := 8, ground := Ground.data }, { on := 9, ground := Ground.data }, { on := 7, ground := Ground.chain }, { on := 7, ground := Ground.guard }], guard := some (7, true) }) rfl (fun K hK => ?_) AllReadyH.nil
  go_simp
  go_at_call 52
  (with_reducible refine (keeper_live k p kp bp j id s d F1 F2 Gk _ HW.out.1 hl1000).mono ?_)
  rintro e w2 ⟨rfl, hb2⟩
  have hz2 := (Chg.of_below hb2 (fun _ => False)).cell z0 (fun h => h)
  have H2 := Lib.hid (And.intro (HW.out.1.stays hb2) (And.intro (HW.out.2.stays hb2) hb2))
  clear hb2
  go_wp2_with fail
  refine hK.out _ _ (hz2) (fun hHeld => ?_)
  clear hK K
  (try simp only [Act.put, List.setIfInBounds_toArray, List.set_cons_zero, List.set_cons_succ])
  refine wpAnyH_ready (rs := [19]) (by kernel_rfl) (by simp) ?_
  refine AllReadyH.cons (o := { dst := some 26, op := Op.call { callee := Callee.value (Operand.func 28), args := #[Operand.tmp 20, Operand.tmp 21, Operand.tmp 25], argTypes := #[34, 28, 28] }, type := 4, pos := "law.go:37", after := #[{ on := 13, ground := Ground.data }, { on := 14, ground := Ground.data }, { on := 18, ground := Ground.data }, { on := 10, ground := Ground.chain }, { on := 7, ground := Ground.guard }], guard := some (7, true) }) rfl (fun K hK => ?_) AllReadyH.nil
  go_simp
  go_at_call 28
  (with_reducible refine (Ls.rlive_any cs t q sd.last id s.now sd.l F _ H2.out.2.1.book (by rw [← HNL.out.2]; exact hl1000)).mono ?_)
  rintro e w3 ⟨rfl, rfl⟩
  rw [← HNL.out.2]
  go_wp2_with fail
  refine hK.out _ _ (hz2) (fun hHeld => ?_)
  clear hK K
  (try simp only [Act.put, List.setIfInBounds_toArray, List.set_cons_zero, List.set_cons_succ])
  refine wpAnyH_take (i := 20) (oi := { dst := some 27, op := Op.binOp BinOp.eql 4 (Operand.tmp 17) (Operand.tmp 26) 4, type := 4, pos := "law.go:37", after := #[{ on := 10, ground := Ground.data }, { on := 19, ground := Ground.data }, { on := 7, ground := Ground.guard }], guard := some (7, true) }) (v := ?v20x21) rfl (by kernel_rfl) (by kernel_rfl) (by kernel_rfl) (fun _ _ _ h => h) (Or.inl ⟨by rfl, ?hy20x21⟩) (by assumption) ?rest20x21
  case hy20x21 => (intro w hSw; (try dsimp only at hSw); go_simp; all_goals (with_reducible rfl))
  (try simp only [Act.put, List.setIfInBounds_toArray, List.set_cons_zero, List.set_cons_succ])
  refine wpAnyH_take (i := 21) (oi := { dst := some 28, op := Op.pick (Operand.tmp 14) (Operand.tmp 27) (Operand.const (Value.bool false)), type := 4, pos := "law.go:37", after := #[{ on := 7, ground := Ground.data }, { on := 20, ground := Ground.data }], guard := none }) (v := ?v21x22) rfl (by kernel_rfl) (by kernel_rfl) (by kernel_rfl) (fun _ _ _ h => h) (Or.inl ⟨by rfl, ?hy21x22⟩) (by assumption) ?rest21x22
  case hy21x22 => (intro w hSw; (try dsimp only at hSw); go_simp; all_goals (with_reducible rfl))
  (try simp only [Act.put, List.setIfInBounds_toArray, List.set_cons_zero, List.set_cons_succ])
  refine wpAnyH_take (i := 22) (oi := { dst := some 29, op := Op.move (Operand.tmp 28), type := 4, pos := "law.go:37", after := #[{ on := 21, ground := Ground.data }, { on := 19, ground := Ground.chain }], guard := none }) (v := ?v22x23) rfl (by kernel_rfl) (by kernel_rfl) (by kernel_rfl) (fun _ _ _ h => h) (Or.inl ⟨by rfl, ?hy22x23⟩) (by assumption) ?rest22x23
  case hy22x23 => (intro w hSw; (try dsimp only at hSw); go_simp; all_goals (with_reducible rfl))
  (try simp only [Act.put, List.setIfInBounds_toArray, List.set_cons_zero, List.set_cons_succ])
  refine wpAnyH_take (i := 23) (oi := { dst := some 30, op := Op.move (Operand.tmp 0), type := 54, pos := "law.go:37", after := #[{ on := 22, ground := Ground.guard }], guard := some (22, true) }) (v := ?v23x24) rfl (by kernel_rfl) (by kernel_rfl) (by kernel_rfl) (fun _ _ _ h => h) (Or.inl ⟨by rfl, ?hy23x24⟩) (by assumption) ?rest23x24
  case hy23x24 => (intro w hSw; (try dsimp only at hSw); go_simp; all_goals (with_reducible rfl))
  (try simp only [Act.put, List.setIfInBounds_toArray, List.set_cons_zero, List.set_cons_succ])
  refine wpAnyH_take (i := 25) (oi := { dst := some 32, op := Op.move (Operand.tmp 1), type := 27, pos := "law.go:37", after := #[{ on := 22, ground := Ground.guard }], guard := some (22, true) }) (v := ?v25x25) rfl (by kernel_rfl) (by kernel_rfl) (by kernel_rfl) (fun _ _ _ h => h) (Or.inl ⟨by rfl, ?hy25x25⟩) (by assumption) ?rest25x25
  case hy25x25 => (intro w hSw; (try dsimp only at hSw); go_simp; all_goals (with_reducible rfl))
  (try simp only [Act.put, List.setIfInBounds_toArray, List.set_cons_zero, List.set_cons_succ])
  refine wpAnyH_take (i := 26) (oi := { dst := some 33, op := Op.nilCheck (Operand.tmp 32), type := 0, pos := "law.go:37", after := #[{ on := 25, ground := Ground.data }, { on := 22, ground := Ground.guard }], guard := some (22, true) }) (v := ?v26x26) rfl (by kernel_rfl) (by kernel_rfl) (by kernel_rfl) (fun _ _ _ h => h) (Or.inl ⟨by rfl, ?hy26x26⟩) (by assumption) ?rest26x26
  case hy26x26 => (intro w hSw; (try dsimp only at hSw); go_simp; all_goals (with_reducible rfl))
  (try simp only [Act.put, List.setIfInBounds_toArray, List.set_cons_zero, List.set_cons_succ])
  refine wpAnyH_take (i := 27) (oi := { dst := some 34, op := Op.fieldAddr 36 (Operand.tmp 33) 1, type := 0, pos := "law.go:37", after := #[{ on := 26, ground := Ground.data }, { on := 22, ground := Ground.guard }], guard := some (22, true) }) (v := ?v27x27) rfl (by kernel_rfl) (by kernel_rfl) (by kernel_rfl) (fun _ _ _ h => h) (Or.inl ⟨by rfl, ?hy27x27⟩) (by assumption) ?rest27x27
  case hy27x27 => (intro w hSw; (try dsimp only at hSw); go_simp; all_goals (with_reducible rfl))
  (try simp only [Act.put, List.setIfInBounds_toArray, List.set_cons_zero, List.set_cons_succ])
  refine wpAnyH_ready (rs := [24]) (by kernel_rfl) (by simp) ?_
  refine AllReadyH.cons (o := { dst := some 31, op := Op.call { callee := Callee.value (Operand.func 15), args := #[Operand.tmp 30, Operand.const (Value.string { data := #[] })], argTypes := #[54, 9] }, type := 29, pos := "law.go:37", after := #[{ on := 23, ground := Ground.data }, { on := 22, ground := Ground.chain }, { on := 22, ground := Ground.guard }], guard := some (22, true) }) rfl (fun K hK => ?_) AllReadyH.nil
  go_simp
  go_at_call 15
  (with_reducible refine (keeper_list k p kp bp j s d F1 F2 Gk ⟨#[]⟩ _ H2.out.1 HF.out).mono ?_)
  rintro e w4 ⟨xo, xc, es, rfl, hb4, hn4, hm4, -, -⟩
  have hz4 := (Chg.of_below hb4 (fun _ => False)).cell hz2 (fun h => h)
  have H4 := Lib.hid (And.intro (H2.out.1.stays hb4) (And.intro (H2.out.2.1.stays hb4) (And.intro (H2.out.2.2.trans (hb4.mono H2.out.2.2.size)) (And.intro hn4 hm4))))
  clear hb4 hn4 hm4
  go_wp2_with fail
  refine hK.out _ _ (hz4) (fun hHeld => ?_)
  clear hK K
  (try simp only [Act.put, List.setIfInBounds_toArray, List.set_cons_zero, List.set_cons_succ])
  refine wpAnyH_ready (rs := [28]) (by kernel_rfl) (by simp) ?_
  refine AllReadyH.cons (o := { dst := some 35, op := Op.call { callee := Callee.value (Operand.func 38), args := #[Operand.tmp 34, Operand.const (Value.string { data := #[] })], argTypes := #[31, 9] }, type := 29, pos := "law.go:37", after := #[{ on := 27, ground := Ground.data }, { on := 24, ground := Ground.chain }, { on := 22, ground := Ground.guard }], guard := some (22, true) }) rfl (fun K hK => ?_) AllReadyH.nil
  go_simp
  go_at_call 38
  (with_reducible refine (Tr.rlist_any q cs t ⟨#[]⟩ sd.ps G _ H4.out.2.1.tree hn256).mono ?_)
  rintro e w5 ⟨yo, yc, fs, rfl, hb5, hn5, hm5⟩
  rw [HS.out.1] at hm5 ⊢
  have hz5 := (Chg.of_below hb5 (fun _ => False)).cell hz4 (fun h => h)
  have H5 := Lib.hid (And.intro (H4.out.1.stays hb5) (And.intro (H4.out.2.1.stays hb5) (And.intro (H4.out.2.2.1.trans (hb5.mono H4.out.2.2.1.size)) (And.intro (H4.out.2.2.2.1.below hb5) (And.intro hn5 hm5)))))
  clear hb5 hn5 hm5
  go_wp2_with fail
  refine hK.out _ _ (hz5) (fun hHeld => ?_)
  clear hK K
  (try simp only [Act.put, List.setIfInBounds_toArray, List.set_cons_zero, List.set_cons_succ])
  refine wpAnyH_ready (rs := [29]) (by kernel_rfl) (by simp) ?_
  refine AllReadyH.cons (o := { dst := some 36, op := Op.call { callee := Callee.value (Operand.func 19), args := #[Operand.tmp 31, Operand.tmp 35], argTypes := #[29, 29] }, type := 4, pos := "law.go:37", after := #[{ on := 24, ground := Ground.data }, { on := 28, ground := Ground.data }, { on := 28, ground := Ground.chain }, { on := 22, ground := Ground.guard }], guard := some (22, true) }) rfl (fun K hK => ?_) AllReadyH.nil
  go_simp
  go_at_call 19
  (with_reducible refine (Tr.same_nodes xo yo _ xc yc es fs _ H5.out.2.2.2.1 H5.out.2.2.2.2.1 (by have := congrArg List.length H4.out.2.2.2.2; rwa [List.length_map] at this) (H4.out.2.2.2.2.trans H5.out.2.2.2.2.2.symm) HLE.out.1).mono ?_)
  rintro e w6 ⟨rfl, hb6⟩
  have hz6 := (Chg.of_below hb6 (fun _ => False)).cell hz5 (fun h => h)
  have H6 := Lib.hid (And.intro (H5.out.1.stays hb6) (And.intro (H5.out.2.1.stays hb6) (H5.out.2.2.1.trans (hb6.mono H5.out.2.2.1.size))))
  clear hb6
  go_wp2_with fail
  refine hK.out _ _ (hz6) (fun hHeld => ?_)
  clear hK K
  (try simp only [Act.put, List.setIfInBounds_toArray, List.set_cons_zero, List.set_cons_succ])
  refine wpAnyH_take (i := 30) (oi := { dst := some 37, op := Op.pick (Operand.tmp 29) (Operand.tmp 36) (Operand.const (Value.bool false)), type := 4, pos := "law.go:37", after := #[{ on := 22, ground := Ground.data }, { on := 29, ground := Ground.data }], guard := none }) (v := ?v30x31) rfl (by kernel_rfl) (by kernel_rfl) (by kernel_rfl) (fun _ _ _ h => h) (Or.inl ⟨by rfl, ?hy30x31⟩) (by assumption) ?rest30x31
  case hy30x31 => (intro w hSw; (try dsimp only at hSw); go_simp; all_goals (with_reducible rfl))
  (try simp only [Act.put, List.setIfInBounds_toArray, List.set_cons_zero, List.set_cons_succ])
  refine wpAnyH_take (i := 31) (oi := { dst := some 38, op := Op.move (Operand.tmp 37), type := 4, pos := "law.go:37", after := #[{ on := 30, ground := Ground.data }, { on := 29, ground := Ground.chain }], guard := none }) (v := ?v31x32) rfl (by kernel_rfl) (by kernel_rfl) (by kernel_rfl) (fun _ _ _ h => h) (Or.inl ⟨by rfl, ?hy31x32⟩) (by assumption) ?rest31x32
  case hy31x32 => (intro w hSw; (try dsimp only at hSw); go_simp; all_goals (with_reducible rfl))
  (try simp only [Act.put, List.setIfInBounds_toArray, List.set_cons_zero, List.set_cons_succ])
  refine wpAnyH_take (i := 32) (oi := { dst := some 39, op := Op.move (Operand.tmp 0), type := 54, pos := "law.go:37", after := #[{ on := 31, ground := Ground.guard }], guard := some (31, true) }) (v := ?v32x33) rfl (by kernel_rfl) (by kernel_rfl) (by kernel_rfl) (fun _ _ _ h => h) (Or.inl ⟨by rfl, ?hy32x33⟩) (by assumption) ?rest32x33
  case hy32x33 => (intro w hSw; (try dsimp only at hSw); go_simp; all_goals (with_reducible rfl))
  (try simp only [Act.put, List.setIfInBounds_toArray, List.set_cons_zero, List.set_cons_succ])
  refine wpAnyH_take (i := 34) (oi := { dst := some 41, op := Op.move (Operand.tmp 1), type := 27, pos := "law.go:37", after := #[{ on := 31, ground := Ground.guard }], guard := some (31, true) }) (v := ?v34x34) rfl (by kernel_rfl) (by kernel_rfl) (by kernel_rfl) (fun _ _ _ h => h) (Or.inl ⟨by rfl, ?hy34x34⟩) (by assumption) ?rest34x34
  case hy34x34 => (intro w hSw; (try dsimp only at hSw); go_simp; all_goals (with_reducible rfl))
  (try simp only [Act.put, List.setIfInBounds_toArray, List.set_cons_zero, List.set_cons_succ])
  refine wpAnyH_take (i := 35) (oi := { dst := some 42, op := Op.nilCheck (Operand.tmp 41), type := 0, pos := "law.go:37", after := #[{ on := 34, ground := Ground.data }, { on := 31, ground := Ground.guard }], guard := some (31, true) }) (v := ?v35x35) rfl (by kernel_rfl) (by kernel_rfl) (by kernel_rfl) (fun _ _ _ h => h) (Or.inl ⟨by rfl, ?hy35x35⟩) (by assumption) ?rest35x35
  case hy35x35 => (intro w hSw; (try dsimp only at hSw); go_simp; all_goals (with_reducible rfl))
  (try simp only [Act.put, List.setIfInBounds_toArray, List.set_cons_zero, List.set_cons_succ])
  refine wpAnyH_take (i := 36) (oi := { dst := some 43, op := Op.fieldAddr 36 (Operand.tmp 42) 1, type := 0, pos := "law.go:37", after := #[{ on := 35, ground := Ground.data }, { on := 31, ground := Ground.guard }], guard := some (31, true) }) (v := ?v36x36) rfl (by kernel_rfl) (by kernel_rfl) (by kernel_rfl) (fun _ _ _ h => h) (Or.inl ⟨by rfl, ?hy36x36⟩) (by assumption) ?rest36x36
  case hy36x36 => (intro w hSw; (try dsimp only at hSw); go_simp; all_goals (with_reducible rfl))
  (try simp only [Act.put, List.setIfInBounds_toArray, List.set_cons_zero, List.set_cons_succ])
  refine wpAnyH_ready (rs := [33]) (by kernel_rfl) (by simp) ?_
  refine AllReadyH.cons (o := { dst := some 40, op := Op.call { callee := Callee.value (Operand.func 15), args := #[Operand.tmp 39, Operand.const (Value.string { data := #[111, 119, 110] })], argTypes := #[54, 9] }, type := 29, pos := "law.go:37", after := #[{ on := 32, ground := Ground.data }, { on := 31, ground := Ground.chain }, { on := 31, ground := Ground.guard }], guard := some (31, true) }) rfl (fun K hK => ?_) AllReadyH.nil
  go_simp
  go_at_call 15
  (with_reducible refine (keeper_list k p kp bp j s d F1 F2 Gk ⟨#[111, 119, 110]⟩ _ H6.out.1 HF.out).mono ?_)
  rintro e w7 ⟨xo7, xc7, es7, rfl, hb7, hn7, hm7, -, -⟩
  have hz7 := (Chg.of_below hb7 (fun _ => False)).cell hz6 (fun h => h)
  have H7 := Lib.hid (And.intro (H6.out.2.1.stays hb7) (And.intro (H6.out.2.2.trans (hb7.mono H6.out.2.2.size)) (And.intro hn7 hm7)))
  clear hb7 hn7 hm7
  go_wp2_with fail
  refine hK.out _ _ (hz7) (fun hHeld => ?_)
  clear hK K
  (try simp only [Act.put, List.setIfInBounds_toArray, List.set_cons_zero, List.set_cons_succ])
  refine wpAnyH_ready (rs := [37]) (by kernel_rfl) (by simp) ?_
  refine AllReadyH.cons (o := { dst := some 44, op := Op.call { callee := Callee.value (Operand.func 38), args := #[Operand.tmp 43, Operand.const (Value.string { data := #[111, 119, 110] })], argTypes := #[31, 9] }, type := 29, pos := "law.go:37", after := #[{ on := 36, ground := Ground.data }, { on := 33, ground := Ground.chain }, { on := 31, ground := Ground.guard }], guard := some (31, true) }) rfl (fun K hK => ?_) AllReadyH.nil
  go_simp
  go_at_call 38
  (with_reducible refine (Tr.rlist_any q cs t ⟨#[111, 119, 110]⟩ sd.ps G _ H7.out.1.tree hn256).mono ?_)
  rintro e w8 ⟨yo8, yc8, fs8, rfl, hb8, hn8, hm8⟩
  rw [HS.out.2] at hm8 ⊢
  have hz8 := (Chg.of_below hb8 (fun _ => False)).cell hz7 (fun h => h)
  have H8 := Lib.hid (And.intro (H7.out.2.1.trans (hb8.mono H7.out.2.1.size)) (And.intro (H7.out.2.2.1.below hb8) (And.intro hn8 hm8)))
  clear hb8 hn8 hm8
  go_wp2_with fail
  refine hK.out _ _ (hz8) (fun hHeld => ?_)
  clear hK K
  (try simp only [Act.put, List.setIfInBounds_toArray, List.set_cons_zero, List.set_cons_succ])
  refine wpAnyH_ready (rs := [38]) (by kernel_rfl) (by simp) ?_
  refine AllReadyH.cons (o := { dst := some 45, op := Op.call { callee := Callee.value (Operand.func 19), args := #[Operand.tmp 40, Operand.tmp 44], argTypes := #[29, 29] }, type := 4, pos := "law.go:37", after := #[{ on := 33, ground := Ground.data }, { on := 37, ground := Ground.data }, { on := 37, ground := Ground.chain }, { on := 31, ground := Ground.guard }], guard := some (31, true) }) rfl (fun K hK => ?_) AllReadyH.nil
  go_simp
  go_at_call 19
  (with_reducible refine (Tr.same_nodes xo7 yo8 _ xc7 yc8 es7 fs8 _ H8.out.2.1 H8.out.2.2.1 (by have := congrArg List.length H7.out.2.2.2; rwa [List.length_map] at this) (H7.out.2.2.2.trans H8.out.2.2.2.symm) HLE.out.2).mono ?_)
  rintro e w9 ⟨rfl, hb9⟩
  have hz9 := (Chg.of_below hb9 (fun _ => False)).cell hz8 (fun h => h)
  have H9 := Lib.hid (H8.out.1.trans (hb9.mono H8.out.1.size))
  clear hb9
  go_wp2_with fail
  refine hK.out _ _ (hz9) (fun hHeld => ?_)
  clear hK K
  (try simp only [Act.put, List.setIfInBounds_toArray, List.set_cons_zero, List.set_cons_succ])
  refine wpAnyH_take (i := 39) (oi := { dst := some 46, op := Op.pick (Operand.tmp 38) (Operand.tmp 45) (Operand.const (Value.bool false)), type := 4, pos := "law.go:37", after := #[{ on := 31, ground := Ground.data }, { on := 38, ground := Ground.data }], guard := none }) (v := ?v39x40) rfl (by kernel_rfl) (by kernel_rfl) (by kernel_rfl) (fun _ _ _ h => h) (Or.inl ⟨by rfl, ?hy39x40⟩) (by assumption) ?rest39x40
  case hy39x40 => (intro w hSw; (try dsimp only at hSw); go_simp; all_goals (with_reducible rfl))
  (try simp only [Act.put, List.setIfInBounds_toArray, List.set_cons_zero, List.set_cons_succ])
  refine wpAnyH_take (i := 40) (oi := { dst := some 6, op := Op.assign (Operand.tmp 46), type := 4, pos := "law.go:37", after := #[{ on := 39, ground := Ground.data }, { on := 38, ground := Ground.chain }, { on := 0, ground := Ground.phase }, { on := 1, ground := Ground.phase }, { on := 2, ground := Ground.phase }, { on := 3, ground := Ground.phase }, { on := 4, ground := Ground.phase }, { on := 5, ground := Ground.phase }, { on := 6, ground := Ground.phase }, { on := 7, ground := Ground.phase }, { on := 8, ground := Ground.phase }, { on := 9, ground := Ground.phase }, { on := 10, ground := Ground.phase }, { on := 11, ground := Ground.phase }, { on := 12, ground := Ground.phase }, { on := 13, ground := Ground.phase }, { on := 14, ground := Ground.phase }, { on := 15, ground := Ground.phase }, { on := 16, ground := Ground.phase }, { on := 17, ground := Ground.phase }, { on := 18, ground := Ground.phase }, { on := 19, ground := Ground.phase }, { on := 20, ground := Ground.phase }, { on := 21, ground := Ground.phase }, { on := 22, ground := Ground.phase }, { on := 23, ground := Ground.phase }, { on := 24, ground := Ground.phase }, { on := 25, ground := Ground.phase }, { on := 26, ground := Ground.phase }, { on := 27, ground := Ground.phase }, { on := 28, ground := Ground.phase }, { on := 29, ground := Ground.phase }, { on := 30, ground := Ground.phase }, { on := 31, ground := Ground.phase }, { on := 32, ground := Ground.phase }, { on := 33, ground := Ground.phase }, { on := 34, ground := Ground.phase }, { on := 35, ground := Ground.phase }, { on := 36, ground := Ground.phase }, { on := 37, ground := Ground.phase }, { on := 38, ground := Ground.phase }, { on := 39, ground := Ground.phase }], guard := none }) (v := ?v40x41) rfl (by kernel_rfl) (by kernel_rfl) (by kernel_rfl) (fun _ _ _ h => h) (Or.inl ⟨by rfl, ?hy40x41⟩) (by assumption) ?rest40x41
  case hy40x41 => (intro w hSw; (try dsimp only at hSw); go_simp; all_goals (with_reducible rfl))
  (try simp only [Act.put, List.setIfInBounds_toArray, List.set_cons_zero, List.set_cons_succ])
  refine wpAnyH_done (by kernel_rfl) ?_ _
  -- HANDEND1
  go_wp2
  go_ret
  exact ⟨rfl, (Below.refl _ _).drew.trans H9.out⟩
-- END1
end Go.Proofs.YtackmgmaippajaaGreat
