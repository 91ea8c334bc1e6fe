/-
  LAYER 8: the law MetaApart.
-/
import Derived.Test.YtackmgmaippajaaGreatMtL
namespace Go.Proofs.YtackmgmaippajaaGreat
open Go Go.RowKit

set_option maxHeartbeats 4000000 in
set_option maxRecDepth 100000 in
theorem metaApart_any (po : Option Addr) (N pc : Nat) (ps : List CmT) (room : Nat) (w : World) (h : RowOf w po 6 (fun t cs => CmIs w t.c t.vo t.vc cs) ps) (hN : ps.length = N) (hN2 : N ≤ maxLen) (hr : room < 65536) :
    Calls Tryz.prog 4 #[.slice po N pc, .int .u16 (room : Int)] w fun e w' => e = .returned (.bool true) ∧ Below w.heap.size w w' := by
  have HH := Lib.hid (And.intro h hN)
  have e1 : IntKind.i64.wrap (room : Int) = (room : Int) := IntWalk.i64_in _ (by omega)
  unfold maxLen at hN2
  clear h hN
  go_enter Tryz.func4, Tryz.ntmps4
  go_upto_region 7 with (first
    | (go_at_call 7; (with_reducible refine (awake _).mono ?_); rintro e w1 ⟨rfl, hb⟩; have H1 := Lib.hid hb; clear hb)
    | (go_at_call 13; (with_reducible refine (disk_in w room (room : Int) _ H1.out rfl (by omega)).mono ?_); rintro e w2 ⟨p, rfl, hb, hd, hp⟩; have H2 := Lib.hid (And.intro (H1.out.trans (hb.mono H1.out.size)) (And.intro hd (Nat.le_trans H1.out.size hp))); clear hb hd hp)
    | (go_at_call 14; (with_reducible refine (open_in w p room 0 [p] _ H2.out.2.1 H2.out.1 (fun i hi => by rw [List.mem_singleton] at hi; rw [hi]; exact H2.out.2.2)).mono ?_); rintro e w3 ⟨k, B, rfl, hk, -, -⟩; have H3 := Lib.hid hk; clear hk))
  go_upto_block 0 with fail
  go_cut [] (fun wx => Below w.heap.size w wx)
  case first =>
    -- BEGIN1
    go_wp2
    go_loopg [34] N (fun g i wr => ∃ j s B d, g + j = N ∧ i = .int .i64 (j : Nat) ∧ j ≤ 41 ∧ Kp w wr k p s d B j ∧ s.ps.length ≤ j)
    case atStart => exact ⟨0, St.new, B, _, by omega, rfl, by omega, H3.out, Nat.le_refl _⟩
    case round =>
      obtain ⟨j, s, B4, d, hgj, rfl, hj, hk, hps⟩ := hrel
      have HK := Lib.hid (And.intro hk hps)
      clear hps
      by_cases hjN : j < N
      · have hji : (j : Int) < (N : Int) := by omega
        have hj0 : (0 : Int) ≤ (j : Int) := by omega
        obtain ⟨b, off, c, vo, vc, rfl, hcm, hcell⟩ := cmt_of HH.out.1 (k := j) (by rw [HH.out.2]; exact hjN)
        obtain ⟨c0, c1, c2, c3, c4, c5⟩ := hcell wr hk.below
        have HC := Lib.hid hcm
        clear hcm hcell hk
        by_cases h40 : 40 < j
        · have h40i : (40 : Int) < (j : Int) := by omega
          have HB := Lib.hid (HK.out.1.below.alloc HK.out.1.below.size (.cells #[.int .u8 (c.kind : Int), .string c.key, .slice vo c.val.length vc, .int .u64 (c.want : Int), .int .u64 (c.sess : Int), .int .u64 (c.ticks : Int)] 39))
          go_wp2
          go_meet
          exact HB.out
        · have h40i : ¬ (40 : Int) < (j : Int) := by omega
          have hA := (Below.refl wr.heap.size wr).alloc (Nat.le_refl _) (.cells #[.int .u8 (c.kind : Int), .string c.key, .slice vo c.val.length vc, .int .u64 (c.want : Int), .int .u64 (c.sess : Int), .int .u64 (c.ticks : Int)] 39)
          have hT := heap_top wr (.cells #[.int .u8 (c.kind : Int), .string c.key, .slice vo c.val.length vc, .int .u64 (c.want : Int), .int .u64 (c.sess : Int), .int .u64 (c.ticks : Int)] 39)
          have HA := Lib.hid (And.intro hA hT)
          clear hA hT
          go_upto_region 10 with fail
          generalize wr.alloc (.cells #[.int .u8 (c.kind : Int), .string c.key, .slice vo c.val.length vc, .int .u64 (c.want : Int), .int .u64 (c.sess : Int), .int .u64 (c.ticks : Int)] 39) = wa at *
          obtain ⟨a0, a1, a2, a3, a4, a5⟩ := cells6 HA.out.2 (Below.refl _ _)
          by_cases hlong : c.long = true
          · go_wp2_with (go_at_call 8; (with_reducible refine (long_c c vo vc _).mono ?_); rintro e w4 ⟨rfl, hb⟩; have H4 := Lib.hid hb; rw [hlong]; clear hb)
            go_meet
            exact HK.out.1.below.trans ((HA.out.1.trans (H4.out.mono HA.out.1.size)).mono HK.out.1.below.size)
          · have hlong0 : c.long = false := by simpa using hlong
            have HL := Lib.hid (Cm.long_false hlong0)
            clear hlong
            go_upto_region 11 with (go_at_call 8; (with_reducible refine (long_c c vo vc _).mono ?_); rintro e w4 ⟨rfl, hb⟩; rw [hlong0]; have hT4 := (Chg.of_below hb (fun _ => False)).heap HA.out.2 (fun h => h); obtain ⟨b0, b1, b2, b3, b4, b5⟩ := cells6 hT4 (Below.refl _ _); have H4 := Lib.hid (And.intro (HA.out.1.trans (hb.mono HA.out.1.size)) hT4); clear hb hT4)
            clear a0 a1 a2 a3 a4 a5
            obtain ⟨T, hTq⟩ : ∃ T, wr.heap.size = T := ⟨_, rfl⟩
            have HTB := Lib.hid (show w.heap.size ≤ T ∧ ∀ i ∈ B4, i < T from ⟨hTq ▸ HK.out.1.below.size, fun i hi => hTq ▸ HK.out.1.lt i hi⟩)
            rw [hTq] at H4 b0 b1 b2 b3 b4 b5 ⊢
            have f0 := heap_frozen H4.out.2 0
            have f1 := heap_frozen H4.out.2 1
            have f2 := heap_frozen H4.out.2 2
            have f3 := heap_frozen H4.out.2 3
            have f4 := heap_frozen H4.out.2 4
            have f5 := heap_frozen H4.out.2 5
            go_upto_region 12 with (go_at_call 9; (with_reducible refine (cmd_c c vo vc _ HC.out.kind HL.out.1).mono ?_); rintro e w5 ⟨q, K, rfl, hq, hK, hb⟩; have hT5 := (Chg.of_below hb (fun _ => False)).heap H4.out.2 (fun h => h); obtain ⟨d0, d1, d2, d3, d4, d5⟩ := cells6 hT5 (Below.refl _ _); have g0 := heap_frozen hT5 0; have g1 := heap_frozen hT5 1; have g2 := heap_frozen hT5 2; have g3 := heap_frozen hT5 3; have g4 := heap_frozen hT5 4; have g5 := heap_frozen hT5 5; have H5 := Lib.hid (And.intro (H4.out.1.trans (hb.mono (hTq ▸ H4.out.1.size))) (And.intro hT5 (And.intro hq hK))); clear hb hT5 hq hK)
            have hT6 := six_set (a := .int .u8 (q : Int)) (b := .string K) (c := .slice vo c.val.length vc) (d := .int .u64 (c.want : Int)) (e := .int .u64 (c.sess : Int)) (f := .int .u64 (c.ticks : Int)) H5.out.2.1
            have hch6 := six_chg w5 T (.int .u8 (q : Int)) (.string K) (.slice vo c.val.length vc) (.int .u64 (c.want : Int)) (.int .u64 (c.sess : Int)) (.int .u64 (c.ticks : Int))
            have hk6 := (HK.out.1.stays (hTq ▸ H5.out.1)).keep hch6 (fun i hi e => Nat.lt_irrefl T (e ▸ HTB.out.2 i hi)) (fun i hi => hi ▸ HTB.out.1)
            generalize (((((w5.setCell ⟨T, 0, none⟩ (.int .u8 (q : Int))).setCell ⟨T, 1, none⟩ (.string K)).setCell ⟨T, 2, none⟩ (.slice vo c.val.length vc)).setCell ⟨T, 3, none⟩ (.int .u64 (c.want : Int))).setCell ⟨T, 4, none⟩ (.int .u64 (c.sess : Int))).setCell ⟨T, 5, none⟩ (.int .u64 (c.ticks : Int)) = W6 at *
            have H6 := Lib.hid (And.intro hk6 hT6)
            have HFit := Lib.hid (show (⟨q, K, c.val, c.want, c.sess, c.ticks⟩ : Cm).Fit from ⟨by have := H5.out.2.2.1; show q < 256; omega, H5.out.2.2.2, HL.out.2, HC.out.want, HC.out.sess, HC.out.ticks⟩)
            clear hk6 hT6 hch6 f0 f1 f2 f3 f4 f5 b0 b1 b2 b3 b4 b5 d0 d1 d2 d3 d4 d5 g0 g1 g2 g3 g4 g5
            go_upto_region 13 with (first
              | (go_at_call 15; (with_reducible refine (list_in w k p j s d B4 ⟨#[]⟩ _ H6.out.1).mono ?_); rintro e w7 ⟨xo, xc, es, rfl, hb, hn, hm, hx1, hx2⟩; have H7 := Lib.hid (And.intro hb (And.intro hn (And.intro hm (And.intro hx1 hx2)))); clear hb hn hm hx1 hx2)
              | (go_at_call 16; (with_reducible refine (now_in w k p j s d B4 _ (H6.out.1.stays H7.out.1)).mono ?_); rintro e w8 ⟨rfl, rfl⟩)
              | (go_at_call 17; (with_reducible refine (bytes_in w k p j s d B4 _ (H6.out.1.stays H7.out.1)).mono ?_); rintro e w9 ⟨bo, bc, rfl, hb, ho, hx⟩; have hT9 := (Chg.of_below (H7.out.1.trans (hb.mono H7.out.1.size)) (fun _ => False)).heap H6.out.2 (fun h => h); obtain ⟨d0, d1, d2, d3, d4, d5⟩ := cells6 hT9 (Below.refl _ _); have H9 := Lib.hid (And.intro hb (And.intro ho (And.intro hx hT9))); clear hb ho hx hT9))
            have hk9 := (H6.out.1.stays H7.out.1).stays H9.out.1
            have hn9 := H7.out.2.1.below H9.out.1
            have HK9 := Lib.hid (And.intro hk9 hn9)
            have hv9 := HC.out.val.below hk9.below
            have HV9 := Lib.hid hv9
            clear hk9 hn9 hv9
            have hps := HK.out.2
            rcases doK_cases s d ⟨q, K, c.val, c.want, c.sess, c.ticks⟩ with ⟨code, hc0, hr⟩ | ⟨hr0, hr1, hr2, hr3, hr4, -⟩
            · have HR := Lib.hid hr
              clear hr
              have e2 : ((code : Int) != 0) = true := by simpa using hc0
              have e3 : ((code : Int) == 0) = false := by simpa using hc0
              go_upto_region 14 with (go_at_call 18; (with_reducible refine (do_kp w k p j s s d d B4 ⟨q, K, c.val, c.want, c.sess, c.ticks⟩ vo vc 0 0 0 [] code _ HK9.out.1 (by omega) (by omega) HFit.out HV9.out HR.out rfl rfl).mono ?_); rintro e w10 ⟨uo, uc, rfl, -, -, B7, hk, hch, hB7⟩; have H10 := Lib.hid (And.intro hk (And.intro hch hB7)); clear hk hch hB7)
              have hbl : ∀ a, bo = some a → a.block ∉ B4 := fun a ha hi => by have := H9.out.2.2.1 a ha; have := (H6.out.1.stays H7.out.1).lt _ hi; omega
              have ho10 := H9.out.2.1.keep H10.out.2.1 hbl
              have hn10 := HK9.out.2.keep H10.out.2.1 (fun a ha hi => by have := H7.out.2.2.2.1 a ha; have := H6.out.1.lt _ hi; omega) (fun e he a ha hi => by have := H7.out.2.2.2.2 e he a ha; have := H6.out.1.lt _ hi; omega)
              have hS0 := conv_bytes w10.drew Tryz.underlying25 Tryz.underlying5 Tryz.underlying9 bo d.b.length bc d.b rfl ho10.bts.drew
              have HN10 := Lib.hid (show Tr.NodesAt w10.drew xo es ∧ Kp w w10.drew k p s d B7 (j + 1) ∧ Bts w10.drew bo d.b from ⟨hn10.below (Below.refl _ w10).drew, H10.out.1.stays (Below.refl _ w10).drew, ho10.bts.drew⟩)
              have HLE := Lib.hid (show es.length = (Tr.listP s.ps ⟨#[]⟩).length ∧ (Tr.listP s.ps ⟨#[]⟩).length ≤ 1000000 from ⟨by have := congrArg List.length H7.out.2.2.1; rwa [List.length_map] at this, by rw [Tr.listP_empty]; omega⟩)
              clear hbl ho10 hn10
              -- HAND14
              refine wp_region_held_drew (S := fun wx => (convert 25 9 (.slice bo d.b.length bc)).run Tryz.prog wx = .ok (.string (strOf d.b)) wx) (by kernel_rfl) hS0 (fun hHeld => ?_)
              refine wpAnyH_take (i := 0) (oi := Oper.mk (some 60) (Op.move (Operand.tmp 16)) 51 "law.go:231" #[] none) (v := ?v0) rfl (by kernel_rfl) (by kernel_rfl) (by kernel_rfl) (fun _ _ _ h => h) (Or.inl ⟨by rfl, ?hy0⟩) (by assumption) ?rest0
              case hy0 => (intro w hSw; (try dsimp only at hSw); go_simp; all_goals (with_reducible rfl))
              (try simp only [Act.put, List.setIfInBounds_toArray, List.set_cons_zero, List.set_cons_succ])
              refine wpAnyH_take (i := 1) (oi := Oper.mk (some 61) (Op.binOp BinOp.neq 51 (Operand.tmp 60) (Operand.const (Value.int IntKind.i64 0)) 51) 4 "law.go:231" #[Edge.mk 0 Ground.data] none) (v := ?v1) rfl (by kernel_rfl) (by kernel_rfl) (by kernel_rfl) (fun _ _ _ h => h) (Or.inl ⟨by rfl, ?hy1⟩) (by assumption) ?rest1
              case hy1 => (intro w hSw; (try dsimp only at hSw); go_simp; all_goals (with_reducible rfl))
              (try simp only [Act.put, List.setIfInBounds_toArray, List.set_cons_zero, List.set_cons_succ])
              refine wpAnyH_take (i := 2) (oi := Oper.mk (some 62) (Op.move (Operand.tmp 61)) 4 "law.go:231" #[Edge.mk 1 Ground.data] none) (v := ?v2) rfl (by kernel_rfl) (by kernel_rfl) (by kernel_rfl) (fun _ _ _ h => h) (Or.inl ⟨by rfl, ?hy2⟩) (by assumption) ?rest2
              case hy2 => (intro w hSw; (try dsimp only at hSw); go_simp; all_goals (with_reducible rfl))
              (try simp only [Act.put, List.setIfInBounds_toArray, List.set_cons_zero, List.set_cons_succ])
              refine wpAnyH_take (i := 3) (oi := Oper.mk (some 63) (Op.move (Operand.tmp 14)) 28 "law.go:231" #[Edge.mk 2 Ground.guard] (some (2, true))) (v := ?v3) rfl (by kernel_rfl) (by kernel_rfl) (by kernel_rfl) (fun _ _ _ h => h) (Or.inl ⟨by rfl, ?hy3⟩) (by assumption) ?rest3
              case hy3 => (intro w hSw; (try dsimp only at hSw); go_simp; all_goals (with_reducible rfl))
              (try simp only [Act.put, List.setIfInBounds_toArray, List.set_cons_zero, List.set_cons_succ])
              refine wpAnyH_take (i := 4) (oi := Oper.mk (some 64) (Op.binOp BinOp.neq 28 (Operand.tmp 63) (Operand.const (Value.int IntKind.u64 0)) 28) 4 "law.go:231" #[Edge.mk 3 Ground.data, Edge.mk 2 Ground.guard] (some (2, true))) (v := ?v4) rfl (by kernel_rfl) (by kernel_rfl) (by kernel_rfl) (fun _ _ _ h => h) (Or.inl ⟨by rfl, ?hy4⟩) (by assumption) ?rest4
              case hy4 => (intro w hSw; (try dsimp only at hSw); go_simp; all_goals (with_reducible rfl))
              (try simp only [Act.put, List.setIfInBounds_toArray, List.set_cons_zero, List.set_cons_succ])
              refine wpAnyH_take (i := 5) (oi := Oper.mk (some 65) (Op.move (Operand.tmp 64)) 4 "law.go:231" #[Edge.mk 4 Ground.data, Edge.mk 2 Ground.chain, Edge.mk 2 Ground.guard] (some (2, true))) (v := ?v5) rfl (by kernel_rfl) (by kernel_rfl) (by kernel_rfl) (fun _ _ _ h => h) (Or.inl ⟨by rfl, ?hy5⟩) (by assumption) ?rest5
              case hy5 => (intro w hSw; (try dsimp only at hSw); go_simp; all_goals (with_reducible rfl))
              (try simp only [Act.put, List.setIfInBounds_toArray, List.set_cons_zero, List.set_cons_succ])
              refine wpAnyH_take (i := 6) (oi := Oper.mk (some 66) (Op.move (Operand.tmp 15)) 42 "law.go:231" #[Edge.mk 5 Ground.guard] (some (5, false))) (v := ?v6) rfl (by kernel_rfl) (by kernel_rfl) (by kernel_rfl) (fun _ _ _ h => h) (Or.inl ⟨by rfl, ?hy6⟩) (by assumption) ?rest6
              case hy6 => (intro w hSw; (try dsimp only at hSw); go_simp; all_goals (with_reducible rfl))
              (try simp only [Act.put, List.setIfInBounds_toArray, List.set_cons_zero, List.set_cons_succ])
              refine wpAnyH_take (i := 7) (oi := Oper.mk (some 67) (Op.call (Call.mk (Callee.builtin Builtin.len) #[Operand.tmp 66] #[42])) 3 "law.go:231" #[Edge.mk 6 Ground.data, Edge.mk 5 Ground.guard] (some (5, false))) (v := ?v7) rfl (by kernel_rfl) (by kernel_rfl) (by kernel_rfl) (fun _ _ _ h => h) (Or.inl ⟨by rfl, ?hy7⟩) (by assumption) ?rest7
              case hy7 => (intro w hSw; (try dsimp only at hSw); go_simp; all_goals (with_reducible rfl))
              (try simp only [Act.put, List.setIfInBounds_toArray, List.set_cons_zero, List.set_cons_succ])
              refine wpAnyH_take (i := 8) (oi := Oper.mk (some 68) (Op.binOp BinOp.gtr 3 (Operand.tmp 67) (Operand.const (Value.int IntKind.i64 0)) 3) 4 "law.go:231" #[Edge.mk 7 Ground.data, Edge.mk 5 Ground.guard] (some (5, false))) (v := ?v8) rfl (by kernel_rfl) (by kernel_rfl) (by kernel_rfl) (fun _ _ _ h => h) (Or.inl ⟨by rfl, ?hy8⟩) (by assumption) ?rest8
              case hy8 => (intro w hSw; (try dsimp only at hSw); go_simp; all_goals (with_reducible rfl))
              (try simp only [Act.put, List.setIfInBounds_toArray, List.set_cons_zero, List.set_cons_succ])
              refine wpAnyH_take (i := 9) (oi := Oper.mk (some 69) (Op.pick (Operand.tmp 65) (Operand.const (Value.bool true)) (Operand.tmp 68)) 4 "law.go:231" #[Edge.mk 5 Ground.data, Edge.mk 8 Ground.data, Edge.mk 2 Ground.guard] (some (2, true))) (v := ?v9) rfl (by kernel_rfl) (by kernel_rfl) (by kernel_rfl) (fun _ _ _ h => h) (Or.inl ⟨by rfl, ?hy9⟩) (by assumption) ?rest9
              case hy9 => (intro w hSw; (try dsimp only at hSw); go_simp; all_goals (with_reducible rfl))
              (try simp only [Act.put, List.setIfInBounds_toArray, List.set_cons_zero, List.set_cons_succ])
              refine wpAnyH_take (i := 10) (oi := Oper.mk (some 70) (Op.move (Operand.tmp 69)) 4 "law.go:231" #[Edge.mk 9 Ground.data, Edge.mk 5 Ground.chain, Edge.mk 2 Ground.guard] (some (2, true))) (v := ?v10) rfl (by kernel_rfl) (by kernel_rfl) (by kernel_rfl) (fun _ _ _ h => h) (Or.inl ⟨by rfl, ?hy10⟩) (by assumption) ?rest10
              case hy10 => (intro w hSw; (try dsimp only at hSw); go_simp; all_goals (with_reducible rfl))
              (try simp only [Act.put, List.setIfInBounds_toArray, List.set_cons_zero, List.set_cons_succ])
              refine wpAnyH_take (i := 11) (oi := Oper.mk (some 71) (Op.move (Operand.tmp 7)) 54 "law.go:231" #[Edge.mk 10 Ground.guard] (some (10, false))) (v := ?v11) rfl (by kernel_rfl) (by kernel_rfl) (by kernel_rfl) (fun _ _ _ h => h) (Or.inl ⟨by rfl, ?hy11⟩) (by assumption) ?rest11
              case hy11 => (intro w hSw; (try dsimp only at hSw); go_simp; all_goals (with_reducible rfl))
              (try simp only [Act.put, List.setIfInBounds_toArray, List.set_cons_zero, List.set_cons_succ])
              refine wpAnyH_take (i := 13) (oi := Oper.mk (some 73) (Op.move (Operand.tmp 11)) 29 "law.go:231" #[Edge.mk 10 Ground.guard] (some (10, false))) (v := ?v13) rfl (by kernel_rfl) (by kernel_rfl) (by kernel_rfl) (fun _ _ _ h => h) (Or.inl ⟨by rfl, ?hy13⟩) (by assumption) ?rest13
              case hy13 => (intro w hSw; (try dsimp only at hSw); go_simp; all_goals (with_reducible rfl))
              (try simp only [Act.put, List.setIfInBounds_toArray, List.set_cons_zero, List.set_cons_succ])
              refine wpAnyH_ready (rs := [12]) (by kernel_rfl) (by simp) ?_
              refine AllReadyH.cons (o := Oper.mk (some 72) (Op.call (Call.mk (Callee.value (Operand.func 15)) #[Operand.tmp 71, Operand.const (Value.string (ByteArray.mk #[]))] #[54, 9])) 29 "law.go:231" #[Edge.mk 11 Ground.data, Edge.mk 10 Ground.chain, Edge.mk 10 Ground.guard] (some (10, false))) rfl (fun K hK => ?_) AllReadyH.nil
              go_simp
              go_at_call 15
              (with_reducible refine (list_in w k p (j + 1) s d B7 ⟨#[]⟩ _ HN10.out.2.1).mono ?_)
              rintro e w11 ⟨x2, c2, fs, rfl, hb, hn, hm, -, -⟩
              have hS1 := conv_bytes w11 Tryz.underlying25 Tryz.underlying5 Tryz.underlying9 bo d.b.length bc d.b rfl (HN10.out.2.2.below hb)
              have H11 := Lib.hid (And.intro (HN10.out.1.below hb) (And.intro hn (And.intro hm (And.intro (HN10.out.2.1.stays hb) (HN10.out.2.2.below hb)))))
              clear hb hn hm
              go_wp2_with fail
              refine hK.out _ _ (hS1) (fun hHeld => ?_)
              clear hK K
              (try simp only [Act.put, List.setIfInBounds_toArray, List.set_cons_zero, List.set_cons_succ])
              refine wpAnyH_ready (rs := [14]) (by kernel_rfl) (by simp) ?_
              refine AllReadyH.cons (o := Oper.mk (some 74) (Op.call (Call.mk (Callee.value (Operand.func 19)) #[Operand.tmp 72, Operand.tmp 73] #[29, 29])) 4 "law.go:231" #[Edge.mk 12 Ground.data, Edge.mk 13 Ground.data, Edge.mk 12 Ground.chain, Edge.mk 10 Ground.guard] (some (10, false))) rfl (fun K hK => ?_) AllReadyH.nil
              go_simp
              go_at_call 19
              (with_reducible refine (Tr.same_nodes x2 xo _ c2 xc fs es _ H11.out.2.1 H11.out.1 (by rw [← HLE.out.1]; have := congrArg List.length (H11.out.2.2.1.trans H7.out.2.2.1.symm); rwa [List.length_map, List.length_map] at this) (H11.out.2.2.1.trans H7.out.2.2.1.symm) HLE.out.2).mono ?_)
              rintro e w12 ⟨rfl, hb⟩
              have hS2 := conv_bytes w12 Tryz.underlying25 Tryz.underlying5 Tryz.underlying9 bo d.b.length bc d.b rfl (H11.out.2.2.2.2.below hb)
              have H12 := Lib.hid (And.intro (H11.out.2.2.2.1.stays hb) (H11.out.2.2.2.2.below hb))
              clear hb
              go_wp2_with fail
              refine hK.out _ _ (hS2) (fun hHeld => ?_)
              clear hK K
              (try simp only [Act.put, List.setIfInBounds_toArray, List.set_cons_zero, List.set_cons_succ])
              refine wpAnyH_take (i := 15) (oi := Oper.mk (some 75) (Op.unOp UnOp.not 4 (Operand.tmp 74)) 4 "law.go:231" #[Edge.mk 14 Ground.data, Edge.mk 10 Ground.guard] (some (10, false))) (v := ?v15) rfl (by kernel_rfl) (by kernel_rfl) (by kernel_rfl) (fun _ _ _ h => h) (Or.inl ⟨by rfl, ?hy15⟩) (by assumption) ?rest15
              case hy15 => (intro w hSw; (try dsimp only at hSw); go_simp; all_goals (with_reducible rfl))
              (try simp only [Act.put, List.setIfInBounds_toArray, List.set_cons_zero, List.set_cons_succ])
              refine wpAnyH_take (i := 16) (oi := Oper.mk (some 76) (Op.pick (Operand.tmp 70) (Operand.const (Value.bool true)) (Operand.tmp 75)) 4 "law.go:231" #[Edge.mk 10 Ground.data, Edge.mk 15 Ground.data, Edge.mk 2 Ground.guard] (some (2, true))) (v := ?v16) rfl (by kernel_rfl) (by kernel_rfl) (by kernel_rfl) (fun _ _ _ h => h) (Or.inl ⟨by rfl, ?hy16⟩) (by assumption) ?rest16
              case hy16 => (intro w hSw; (try dsimp only at hSw); go_simp; all_goals (with_reducible rfl))
              (try simp only [Act.put, List.setIfInBounds_toArray, List.set_cons_zero, List.set_cons_succ])
              refine wpAnyH_take (i := 17) (oi := Oper.mk (some 77) (Op.move (Operand.tmp 76)) 4 "law.go:231" #[Edge.mk 16 Ground.data, Edge.mk 14 Ground.chain, Edge.mk 2 Ground.guard] (some (2, true))) (v := ?v17) rfl (by kernel_rfl) (by kernel_rfl) (by kernel_rfl) (fun _ _ _ h => h) (Or.inl ⟨by rfl, ?hy17⟩) (by assumption) ?rest17
              case hy17 => (intro w hSw; (try dsimp only at hSw); go_simp; all_goals (with_reducible rfl))
              (try simp only [Act.put, List.setIfInBounds_toArray, List.set_cons_zero, List.set_cons_succ])
              refine wpAnyH_take (i := 18) (oi := Oper.mk (some 78) (Op.move (Operand.tmp 7)) 54 "law.go:231" #[Edge.mk 17 Ground.guard] (some (17, false))) (v := ?v18) rfl (by kernel_rfl) (by kernel_rfl) (by kernel_rfl) (fun _ _ _ h => h) (Or.inl ⟨by rfl, ?hy18⟩) (by assumption) ?rest18
              case hy18 => (intro w hSw; (try dsimp only at hSw); go_simp; all_goals (with_reducible rfl))
              (try simp only [Act.put, List.setIfInBounds_toArray, List.set_cons_zero, List.set_cons_succ])
              refine wpAnyH_take (i := 20) (oi := Oper.mk (some 80) (Op.move (Operand.tmp 12)) 28 "law.go:231" #[Edge.mk 17 Ground.guard] (some (17, false))) (v := ?v20) rfl (by kernel_rfl) (by kernel_rfl) (by kernel_rfl) (fun _ _ _ h => h) (Or.inl ⟨by rfl, ?hy20⟩) (by assumption) ?rest20
              case hy20 => (intro w hSw; (try dsimp only at hSw); go_simp; all_goals (with_reducible rfl))
              (try simp only [Act.put, List.setIfInBounds_toArray, List.set_cons_zero, List.set_cons_succ])
              refine wpAnyH_ready (rs := [19]) (by kernel_rfl) (by simp) ?_
              refine AllReadyH.cons (o := Oper.mk (some 79) (Op.call (Call.mk (Callee.value (Operand.func 16)) #[Operand.tmp 78] #[54])) 28 "law.go:231" #[Edge.mk 18 Ground.data, Edge.mk 17 Ground.chain, Edge.mk 17 Ground.guard] (some (17, false))) rfl (fun K hK => ?_) AllReadyH.nil
              go_simp
              go_at_call 16
              (with_reducible refine (now_in w k p (j + 1) s d B7 _ H12.out.1).mono ?_)
              rintro e w12b ⟨rfl, rfl⟩
              go_wp2_with fail
              refine hK.out _ _ (hS2) (fun hHeld => ?_)
              clear hK K
              (try simp only [Act.put, List.setIfInBounds_toArray, List.set_cons_zero, List.set_cons_succ])
              refine wpAnyH_take (i := 21) (oi := Oper.mk (some 81) (Op.binOp BinOp.neq 28 (Operand.tmp 79) (Operand.tmp 80) 28) 4 "law.go:231" #[Edge.mk 19 Ground.data, Edge.mk 20 Ground.data, Edge.mk 17 Ground.guard] (some (17, false))) (v := ?v21) rfl (by kernel_rfl) (by kernel_rfl) (by kernel_rfl) (fun _ _ _ h => h) (Or.inl ⟨by rfl, ?hy21⟩) (by assumption) ?rest21
              case hy21 => (intro w hSw; (try dsimp only at hSw); go_simp; all_goals (with_reducible rfl))
              (try simp only [Act.put, List.setIfInBounds_toArray, List.set_cons_zero, List.set_cons_succ])
              refine wpAnyH_take (i := 22) (oi := Oper.mk (some 82) (Op.pick (Operand.tmp 77) (Operand.const (Value.bool true)) (Operand.tmp 81)) 4 "law.go:231" #[Edge.mk 17 Ground.data, Edge.mk 21 Ground.data, Edge.mk 2 Ground.guard] (some (2, true))) (v := ?v22) rfl (by kernel_rfl) (by kernel_rfl) (by kernel_rfl) (fun _ _ _ h => h) (Or.inl ⟨by rfl, ?hy22⟩) (by assumption) ?rest22
              case hy22 => (intro w hSw; (try dsimp only at hSw); go_simp; all_goals (with_reducible rfl))
              (try simp only [Act.put, List.setIfInBounds_toArray, List.set_cons_zero, List.set_cons_succ])
              refine wpAnyH_take (i := 23) (oi := Oper.mk (some 83) (Op.move (Operand.tmp 82)) 4 "law.go:231" #[Edge.mk 22 Ground.data, Edge.mk 19 Ground.chain, Edge.mk 2 Ground.guard] (some (2, true))) (v := ?v23) rfl (by kernel_rfl) (by kernel_rfl) (by kernel_rfl) (fun _ _ _ h => h) (Or.inl ⟨by rfl, ?hy23⟩) (by assumption) ?rest23
              case hy23 => (intro w hSw; (try dsimp only at hSw); go_simp; all_goals (with_reducible rfl))
              (try simp only [Act.put, List.setIfInBounds_toArray, List.set_cons_zero, List.set_cons_succ])
              refine wpAnyH_take (i := 24) (oi := Oper.mk (some 84) (Op.move (Operand.tmp 5)) 50 "law.go:231" #[Edge.mk 23 Ground.guard] (some (23, false))) (v := ?v24) rfl (by kernel_rfl) (by kernel_rfl) (by kernel_rfl) (fun _ _ _ h => h) (Or.inl ⟨by rfl, ?hy24⟩) (by assumption) ?rest24
              case hy24 => (intro w hSw; (try dsimp only at hSw); go_simp; all_goals (with_reducible rfl))
              (try simp only [Act.put, List.setIfInBounds_toArray, List.set_cons_zero, List.set_cons_succ])
              refine wpAnyH_take (i := 27) (oi := Oper.mk (some 87) (Op.move (Operand.tmp 13)) 25 "law.go:231" #[Edge.mk 23 Ground.guard] (some (23, false))) (v := ?v27) rfl (by kernel_rfl) (by kernel_rfl) (by kernel_rfl) (fun _ _ _ h => h) (Or.inl ⟨by rfl, ?hy27⟩) (by assumption) ?rest27
              case hy27 => (intro w hSw; (try dsimp only at hSw); go_simp; all_goals (with_reducible rfl))
              (try simp only [Act.put, List.setIfInBounds_toArray, List.set_cons_zero, List.set_cons_succ])
              refine wpAnyH_take (i := 28) (oi := Oper.mk (some 88) (Op.convert 25 9 (Operand.tmp 87)) 9 "law.go:231" #[Edge.mk 27 Ground.data, Edge.mk 23 Ground.guard] (some (23, false))) (v := ?v28) rfl (by kernel_rfl) (by kernel_rfl) (by kernel_rfl) (fun _ _ _ h => h) (Or.inl ⟨by rfl, ?hy28⟩) (by assumption) ?rest28
              case hy28 => (intro w hSw; (try dsimp only at hSw); go_simp; all_goals (with_reducible rfl))
              (try simp only [Act.put, List.setIfInBounds_toArray, List.set_cons_zero, List.set_cons_succ])
              refine wpAnyH_ready (rs := [25]) (by kernel_rfl) (by simp) ?_
              refine AllReadyH.cons (o := Oper.mk (some 85) (Op.call (Call.mk (Callee.value (Operand.func 17)) #[Operand.tmp 84] #[50])) 25 "law.go:231" #[Edge.mk 24 Ground.data, Edge.mk 23 Ground.chain, Edge.mk 23 Ground.guard] (some (23, false))) rfl (fun K hK => ?_) AllReadyH.nil
              go_simp
              go_at_call 17
              (with_reducible refine (bytes_in w k p (j + 1) s d B7 _ H12.out.1).mono ?_)
              rintro e w13 ⟨b2, c3, rfl, hb, ho, -⟩
              have hS3 := conv_bytes w13 Tryz.underlying25 Tryz.underlying5 Tryz.underlying9 bo d.b.length bc d.b rfl (H12.out.2.below hb)
              have hS4 := conv_bytes w13 Tryz.underlying25 Tryz.underlying5 Tryz.underlying9 b2 d.b.length c3 d.b rfl ho.bts
              have H13 := Lib.hid (H12.out.1.stays hb)
              clear hb ho
              go_wp2_with fail
              refine hK.out _ _ (hS3) (fun hHeld => ?_)
              clear hK K
              (try simp only [Act.put, List.setIfInBounds_toArray, List.set_cons_zero, List.set_cons_succ])
              refine wpAnyH_ready (rs := [26]) (by kernel_rfl) (by simp) ?_
              refine AllReadyH.cons (o := Oper.mk (some 86) (Op.convert 25 9 (Operand.tmp 85)) 9 "law.go:231" #[Edge.mk 25 Ground.data, Edge.mk 23 Ground.guard] (some (23, false))) rfl (fun K hK => ?_) AllReadyH.nil
              go_simp
              refine hK.out _ _ (hS3) (fun hHeld => ?_)
              clear hK K
              (try simp only [Act.put, List.setIfInBounds_toArray, List.set_cons_zero, List.set_cons_succ])
              refine wpAnyH_take (i := 29) (oi := Oper.mk (some 89) (Op.binOp BinOp.neq 9 (Operand.tmp 86) (Operand.tmp 88) 9) 4 "law.go:231" #[Edge.mk 26 Ground.data, Edge.mk 28 Ground.data, Edge.mk 23 Ground.guard] (some (23, false))) (v := ?v29) rfl (by kernel_rfl) (by kernel_rfl) (by kernel_rfl) (fun _ _ _ h => h) (Or.inl ⟨by rfl, ?hy29⟩) (by assumption) ?rest29
              case hy29 => (intro w hSw; (try dsimp only at hSw); go_simp; all_goals (with_reducible rfl))
              (try simp only [Act.put, List.setIfInBounds_toArray, List.set_cons_zero, List.set_cons_succ])
              refine wpAnyH_take (i := 30) (oi := Oper.mk (some 90) (Op.pick (Operand.tmp 83) (Operand.const (Value.bool true)) (Operand.tmp 89)) 4 "law.go:231" #[Edge.mk 23 Ground.data, Edge.mk 29 Ground.data, Edge.mk 2 Ground.guard] (some (2, true))) (v := ?v30) rfl (by kernel_rfl) (by kernel_rfl) (by kernel_rfl) (fun _ _ _ h => h) (Or.inl ⟨by rfl, ?hy30⟩) (by assumption) ?rest30
              case hy30 => (intro w hSw; (try dsimp only at hSw); go_simp; all_goals (with_reducible rfl))
              (try simp only [Act.put, List.setIfInBounds_toArray, List.set_cons_zero, List.set_cons_succ])
              refine wpAnyH_take (i := 31) (oi := Oper.mk (some 91) (Op.pick (Operand.tmp 62) (Operand.tmp 90) (Operand.const (Value.bool false))) 4 "law.go:231" #[Edge.mk 2 Ground.data, Edge.mk 30 Ground.data] none) (v := ?v31) rfl (by kernel_rfl) (by kernel_rfl) (by kernel_rfl) (fun _ _ _ h => h) (Or.inl ⟨by rfl, ?hy31⟩) (by assumption) ?rest31
              case hy31 => (intro w hSw; (try dsimp only at hSw); go_simp; all_goals (with_reducible rfl))
              (try simp only [Act.put, List.setIfInBounds_toArray, List.set_cons_zero, List.set_cons_succ])
              refine wpAnyH_done (by kernel_rfl) ?_ _
              -- HANDEND
              go_wp2
              go_roundg (gk - 1)
              case measure => omega
              case rel => exact ⟨j + 1, s, B7, d, by omega, by go_num, by omega, H13.out, Nat.le_succ_of_le HK.out.2⟩
            · obtain ⟨s', hs'⟩ : ∃ s', (doS s ⟨q, K, c.val, c.want, c.sess, c.ticks⟩).1 = s' := ⟨_, rfl⟩
              obtain ⟨X, hX⟩ : ∃ X, rec (doS s ⟨q, K, c.val, c.want, c.sess, c.ticks⟩).1 ⟨q, K, c.val, c.want, c.sess, c.ticks⟩ = X := ⟨_, rfl⟩
              obtain ⟨n', hn'⟩ : ∃ n', (doS s ⟨q, K, c.val, c.want, c.sess, c.ticks⟩).2.1 = n' := ⟨_, rfl⟩
              obtain ⟨gone, hgone⟩ : ∃ g, (doS s ⟨q, K, c.val, c.want, c.sess, c.ticks⟩).2.2.1 = g := ⟨_, rfl⟩
              have hlen : s'.ps.length ≤ s.ps.length + 1 := hs' ▸ doS_len
              rw [hX] at hr1
              rw [hs'] at hr2
              rw [hn'] at hr3
              rw [hgone] at hr4
              have hr : doK s d ⟨q, K, c.val, c.want, c.sess, c.ticks⟩ = ((s', d.more X), n', gone, 0) := Prod.ext (Prod.ext hr2 hr1) (Prod.ext hr3 (Prod.ext hr4 hr0))
              have hsu : ¬ (((d.more X).sure : Int) ≤ (d.b.length : Int)) := by
                have e : (d.more X).sure = (d.b ++ frame X).length := rfl
                rw [e, List.length_append, frame_len]; omega
              have HR := Lib.hid (And.intro hr hlen)
              have HSU := Lib.hid hsu
              clear hr hlen hsu hr0 hr1 hr2 hr3 hr4 hs' hX hn' hgone
              generalize d.more X = d' at *
              go_upto_region 14 with (go_at_call 18; (with_reducible refine (do_kp w k p j s s' d d' B4 ⟨q, K, c.val, c.want, c.sess, c.ticks⟩ vo vc (n' : Int) n' _ gone 0 _ HK9.out.1 (by omega) (by omega) HFit.out HV9.out HR.out.1 rfl rfl).mono ?_); rintro e w10 ⟨uo, uc, rfl, -, -, B7, hk, -, -⟩; have H10 := Lib.hid hk; clear hk)
              go_wp2
              go_quiet (fail)
              have hsu := HSU.out
              have H10d := Lib.hid (H10.out.stays (below_drewN (Below.refl w10.heap.size w10) nq))
              generalize w10.drewN nq = wd at *
              go_wp2_with (go_at_call 20; (with_reducible refine (sure_in w k p (j + 1) s' d' B7 _ H10d.out).mono ?_); rintro e w11 ⟨rfl, rfl⟩)
              go_roundg (gk - 1)
              case measure => omega
              case rel => exact ⟨j + 1, s', B7, d', by omega, by go_num, by omega, H10d.out, Nat.le_trans HR.out.2 (Nat.succ_le_succ HK.out.2)⟩
      · have HB := Lib.hid hk.below
        clear hk
        go_wp2
        go_meet
        exact HB.out
    -- END1
  case rest =>
    go_wp2
    go_ret
    exact ⟨rfl, hcut⟩
set_option maxRecDepth 100000 in
theorem metaApart_in (W : World) (base : Nat) (v0 v1 : Value) (k0 : Value.okWide Tryz.prog W .any base 23 v0) (k1 : Value.okWide Tryz.prog W .any base 49 v1) (r0 : Rd Tryz.prog W 23 v0.cells.toList) (r1 : Rd Tryz.prog W 49 v1.cells.toList) :
    Calls Tryz.prog 4 #[v0, v1] W fun e w' => e = .returned (.bool true) ∧ Below W.heap.size W w' := by
  obtain ⟨po, ps, pc, rfl, h4, h5, h6⟩ := in_slice Tryz.underlying23 (size := 6) (by kernel_rfl) (by decide) (fun (t : CmT) cs => CmIs W t.c t.vo t.vc cs) (fun es h => by obtain ⟨c, vo, vc, hc⟩ := cm_rd h; exact ⟨⟨c, vo, vc⟩, hc⟩) k0 r0
  obtain ⟨x, rfl, hx⟩ := in_u16 Tryz.underlying49 k1 r1
  exact metaApart_any po _ pc ps x W h4 rfl (Nat.le_trans h5 h6) hx
end Go.Proofs.YtackmgmaippajaaGreat
