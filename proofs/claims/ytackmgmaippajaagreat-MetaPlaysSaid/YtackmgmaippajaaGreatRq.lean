/-
  LAYER 8: the document's Record of its state.
-/
import Derived.Test.YtackmgmaippajaaGreatRr
namespace Go.Proofs.YtackmgmaippajaaGreat
open Go Go.RowKit

theorem Bld.beside {w wr W : World} {ao : Option Addr} {n cap : Nat} {bs : List UInt8} (h : Bld w wr ao n cap bs) (hb : Below wr.heap.size wr W) (S : Nat → Prop) (hS : ∀ k, S k → (k < w.heap.size ∨ wr.heap.size ≤ k) ∧ k < W.heap.size) : BldS w W W ao n cap bs S := by
  refine ⟨h.stays hb, Chg.refl _ _, fun k hk => (hS k hk).2, fun a ha hs => ?_⟩
  have h1 := (h.own.at_ a ha).2.1
  have h2 := h.new a ha
  have := (hS _ hs).1
  omega
/-- A node's cells beside bytes that are built. -/
theorem rq_cells {w w9 W : World} {o : Option Addr} {x y k b off : Nat} {B : List UInt8} {es : List Nd} {e : Nd} (hn : Tr.NodesAt w9 (some ⟨b, off, none⟩) es) (hW : BldS w w9 W o x y B (UnderN (some ⟨b, off, none⟩) es)) (he : es[k]? = some e) :
    W.cell? ⟨b, off + k * 4, none⟩ = some (.string e.key) ∧ W.cell? ⟨b, off + k * 4 + 1, none⟩ = some (.slice e.vo e.body.length e.vc) ∧ W.cell? ⟨b, off + k * 4 + 2, none⟩ = some (.int .u64 (e.ver : Int)) ∧ W.cell? ⟨b, off + k * 4 + 3, none⟩ = some (.int .u64 (e.own : Int)) ∧ Bts W e.vo e.body ∧ (e.body ≠ [] → ∀ a, e.vo = some a → ∀ b, o = some b → b.block ≠ a.block) := by
  have h9 := UnderN.keep hn hW.chg
  have hem := List.mem_of_getElem? he
  obtain ⟨b', off', hb, c0, c1, c2, c3⟩ := Tr.nd_at h9.1 he
  cases hb
  exact ⟨c0, c1, c2, c3, h9.2 e hem, fun hz a ha b hb heq => hW.ne b hb (.inr ⟨e, hem, hz, a, ha, heq⟩)⟩
-- BEGIN1
set_option maxHeartbeats 4000000 in
set_option maxRecDepth 100000 in
theorem rrec_state (s s0 : St) (KI : Int) (key : ByteArray) (vo : Option Addr) (vl vc : Nat) (want sess ticks : Int) (q : Nat) (cs : Array Value) (t : TypeId) (G F : List Nat) (w : World) (h : RsAt w q cs t s G F) (hKI : KI = 7) (hs : s0.Ok) (h1 : s0.now = s.now) (h2 : s0.last = s.last) (h3 : s0.l = s.l) (h4 : Tr.sortP (Tr.listP s.ps ⟨#[]⟩) = s0.ps) (h5 : s.ps.length ≤ 256) :
    Calls Tryz.prog 11 #[.pointer (some ⟨q, 0, none⟩), .agg #[.int .u8 KI, .string key, .slice vo vl vc, .int .u64 want, .int .u64 sess, .int .u64 ticks]] w fun e w' => ∃ bo n cap, e = .returned (.slice bo n cap) ∧ Bld w w' bo n cap (recS s0) := by
  have HRL := Lib.hid (recS_le hs)
  have HOK := Lib.hid hs
  have HST := Lib.hid h
  have H5 := Lib.hid (And.intro h4 h5)
  obtain ⟨lo, n, cap, hbk, ho, -, -⟩ := h.book
  rw [← h3] at ho
  rw [← h2] at hbk
  have hat0 := h.at0
  rw [← h1] at hat0
  have hln : s0.l.length = n := by have := fl_own_len Ls.el_e ho; omega
  have HBK := Lib.hid (And.intro hbk (And.intro ho (And.intro hat0 hln)))
  have hki2 : (KI != 7) = false := by simp [hKI]
  have e1 : IntKind.u64.wrap KI = KI := by rw [hKI]; rfl
  have HKI := Lib.hid hKI
  have hl16 := hs.len
  have hnow := hs.now
  have hlast := hs.last
  have e2 : IntKind.u64.wrap (n : Int) = (n : Int) := IntWalk.u64_in _ (by omega)
  clear hKI h h1 h2 h3 h4 h5 hs hbk ho hat0
  go_enter Tryz.func11, Tryz.ntmps11
  go_upto_region 1 with fail
  have HT := Lib.hid (heap_top w (.cells #[.int .u8 KI, .string key, .slice vo vl vc, .int .u64 want, .int .u64 sess, .int .u64 ticks] 39))
  have HB := Lib.hid ((Bld.nil w).stays ((Below.refl w.heap.size w).alloc (Nat.le_refl _) (.cells #[.int .u8 KI, .string key, .slice vo vl vc, .int .u64 want, .int .u64 sess, .int .u64 ticks] 39)))
  generalize w.alloc (.cells #[.int .u8 KI, .string key, .slice vo vl vc, .int .u64 want, .int .u64 sess, .int .u64 ticks] 39) = wb at *
  obtain ⟨T, hTq⟩ : ∃ T, w.heap.size = T := ⟨_, rfl⟩
  rw [hTq] at HT ⊢
  obtain ⟨a0, -, -, -, -, -⟩ := cells6 HT.out (Below.refl _ _)
  go_upto_region 5 with (go_at_call 36; ((with_reducible refine (bld_put HB.out 7 1 _ 1 HKI.out rfl (by simp) (by decide) (by decide)).mono ?_); rintro e w1 ⟨o1, n1, c1, rfl, hb1, hc1, hx1⟩; have hb0 := (cells6 (hc1.heap HT.out (by simp)) (Below.refl _ _)).1; have H1 := Lib.hid hb1; clear hb1 hc1 hx1))
  clear a0 hb0
  have hz : ∀ W, Below w.heap.size w W → W.cell? ⟨q, 0, none⟩ = some (.int .u64 (s0.now : Int)) ∧ W.cell? ⟨q, 2, none⟩ = some (.int .u64 (s0.last : Int)) ∧ W.cell? ⟨q, 3, none⟩ = some (.slice lo n cap) := fun W hW => by
    have hh := (Chg.of_below hW (fun _ => False)).heap HBK.out.1.heap (fun h => h)
    exact ⟨(heap_cell hh 0).trans HBK.out.2.2.1, (heap_cell hh 2).trans HBK.out.1.at2, (heap_cell hh 3).trans HBK.out.1.at3⟩
  have HZ := Lib.hid hz
  clear hz
  have HD1 := Lib.hid (H1.out.stays (Below.refl _ _).drew)
  have hS0 := HZ.out _ HD1.out.below
  go_region_held3 (fun wx => wx.cell? ⟨q, 0, none⟩ = some (.int .u64 (s0.now : Int)) ∧ wx.cell? ⟨q, 2, none⟩ = some (.int .u64 (s0.last : Int)) ∧ wx.cell? ⟨q, 3, none⟩ = some (.slice lo n cap))
    (first | exact hS0 | exact hS2 | exact hS3)
    (first
      | (go_at_call 36; ((with_reducible refine (bld_put HD1.out s0.now 8 _ 8 rfl rfl (by simp [be_length]) (by omega) (by decide)).mono ?_); rintro e w2 ⟨o2, n2, c2, rfl, hb2, -, -⟩; have hS2 := HZ.out _ hb2.below; have H2 := Lib.hid hb2; clear hb2))
      | (go_at_call 36; ((with_reducible refine (bld_put H2.out s0.last 8 _ 8 rfl rfl (by simp [be_length]) hlast (by decide)).mono ?_); rintro e w3 ⟨o3, n3, c3, rfl, hb3, -, -⟩; have hS3 := HZ.out _ hb3.below; have H3 := Lib.hid hb3; clear hb3)))
  clear hS0 hS2
  obtain ⟨z0, z2, z3⟩ := hS3
  go_wp2_with fail
  (with_reducible refine (bld_put H3.out n 2 _ 2 rfl rfl (by simp [be_length]) (by omega) (by decide)).mono ?_)
  rintro e w4 ⟨o4, n4, c4, rfl, hb4, -, -⟩
  have H4 := Lib.hid hb4
  clear hb4 z0 z2 z3
  obtain ⟨base, hbase⟩ : ∃ base, [] ++ be 1 7 ++ be 8 s0.now ++ be 8 s0.last ++ be 2 n = base := ⟨_, rfl⟩
  have HBL := Lib.hid (show base.length ≤ 100 by rw [← hbase]; simp [be_length])
  have HBB := Lib.hid hbase
  rw [hbase] at H4
  clear hbase
  go_wp2
  go_loopg [5, 6] n (fun g v i wr => ∃ (k : Nat) (ao : Option Addr) (m cp : Nat), g + k = n ∧ i = .int .i64 (k : Int) ∧ v = .slice ao m cp ∧ Bld w wr ao m cp (base ++ (s0.l.take k).flatMap sessB))
  case atStart => exact ⟨0, o4, n4, c4, by omega, rfl, rfl, by simpa using H4.out⟩
  case round =>
    obtain ⟨k, ao, m, cp, hgk, rfl, rfl, hrel⟩ := hrel
    have HR := Lib.hid hrel
    clear hrel
    obtain ⟨z0, z2, z3⟩ := HZ.out _ HR.out.below
    have hbl := HBL.out
    have hlk := sess_le k hl16
    by_cases hk : k < n
    · have hki : (k : Int) < (n : Int) := by omega
      have hk0 : (0 : Int) ≤ (k : Int) := by omega
      obtain ⟨e, he⟩ : ∃ e, s0.l[k]? = some e := ⟨_, List.getElem?_eq_getElem (by omega)⟩
      obtain ⟨b, off, rfl, c0, c1, c2⟩ := Ls.row_at (HBK.out.2.1.keep (Chg.of_below HR.out.below (fun _ => False)) (fun _ _ h => h)).row he
      have hem := List.mem_of_getElem? he
      have he1 : e.id < 18446744073709551616 := by obtain ⟨_, h2, _⟩ := HOK.out.good k e he; omega
      have he2 := HOK.out.ends e hem
      have he3 : e.life < 18446744073709551616 := by obtain ⟨_, _, _, h4, _⟩ := HOK.out.good k e he; omega
      have HE := Lib.hid he
      have hbk := (Below.refl wr.heap.size wr).alloc (Nat.le_refl _) (.cells #[.int .u64 (e.id : Int), .int .u64 (e.ends : Int), .int .u64 (e.life : Int)] 96)
      have hN := heap_top wr (.cells #[.int .u64 (e.id : Int), .int .u64 (e.ends : Int), .int .u64 (e.life : Int)] 96)
      have HA := Lib.hid ((HR.out.beside hbk (· = wr.heap.size) (fun k hk => by rw [hk, size_alloc]; omega)).stays (Below.refl _ _).drew)
      have HN := Lib.hid hN
      obtain ⟨d0, d1, d2⟩ := cells3b hN (Below.refl _ _)
      have hbb : (base ++ (List.take k s0.l).flatMap sessB).length ≤ 1100 := by rw [List.length_append]; omega
      clear hbk hN he hem
      go_upto_region 11 with fail
      generalize wr.alloc (.cells #[.int .u64 (e.id : Int), .int .u64 (e.ends : Int), .int .u64 (e.life : Int)] 96) = wa at *
      generalize wr.heap.size = T2 at *
      clear z0 z2 z3 c0 c1 c2
      have hS0' : wa.drew.cell? ⟨T2, 0, none⟩ = some (.int .u64 (e.id : Int)) ∧ wa.drew.cell? ⟨T2, 1, none⟩ = some (.int .u64 (e.ends : Int)) ∧ wa.drew.cell? ⟨T2, 2, none⟩ = some (.int .u64 (e.life : Int)) := ⟨d0, d1, d2⟩
      go_region_held3 (fun wx => wx.cell? ⟨T2, 0, none⟩ = some (.int .u64 (e.id : Int)) ∧ wx.cell? ⟨T2, 1, none⟩ = some (.int .u64 (e.ends : Int)) ∧ wx.cell? ⟨T2, 2, none⟩ = some (.int .u64 (e.life : Int)))
        (first | exact hS0' | exact hS4 | exact hS5 | exact hS6)
        (first
          | (go_at_call 36; ((with_reducible refine (HA.out.put e.id 8 _ 8 rfl rfl (by omega) he1 (by decide)).mono ?_); rintro e9 w5 ⟨o5, n5, c5, rfl, hb⟩; have hS4 := cells3b (hb.chg.heap HN.out (fun h => h rfl)) (Below.refl _ _); have H5' := Lib.hid hb; clear hb))
          | (go_at_call 36; ((with_reducible refine (H5'.out.put e.ends 8 _ 8 rfl rfl (by rw [List.length_append, be_length]; omega) he2 (by decide)).mono ?_); rintro e9 w6 ⟨o6, n6, c6, rfl, hb⟩; have hS5 := cells3b (hb.chg.heap HN.out (fun h => h rfl)) (Below.refl _ _); have H6' := Lib.hid hb; clear hb))
          | (go_at_call 36; ((with_reducible refine (H6'.out.put e.life 8 _ 8 rfl rfl (by rw [List.length_append, List.length_append, be_length, be_length]; omega) he3 (by decide)).mono ?_); rintro e9 w7 ⟨o7, n7, c7, rfl, hb⟩; have hS6 := cells3b (hb.chg.heap HN.out (fun h => h rfl)) (Below.refl _ _); have H7' := Lib.hid hb; clear hb)))
      have hfin := H7'.out.bld
      rw [← sess_take HE.out] at hfin
      have HF := Lib.hid hfin
      clear hfin hS6
      go_wp2
      go_roundg (gk - 1)
      case measure => omega
      case rel => exact ⟨k + 1, o7, n7, c7, by omega, by go_num, rfl, HF.out⟩
    · obtain rfl : k = n := by omega
      have hki : ¬ (k : Int) < (k : Int) := by omega
      have hb2 := HR.out
      rw [← HBK.out.2.2.2, List.take_length] at hb2
      rw [← HBK.out.2.2.2, List.take_length] at hlk
      obtain ⟨base2, hbase2⟩ : ∃ b, base ++ s0.l.flatMap sessB = b := ⟨_, rfl⟩
      have HBL2 := Lib.hid (show base2.length ≤ 1100 by rw [← hbase2, List.length_append]; omega)
      have HBB2 := Lib.hid hbase2
      rw [hbase2] at hb2
      have HM := Lib.hid hb2
      have hTr := Tr.rlist_at q cs t ⟨#[]⟩ s.ps G wr (HST.out.stays hb2.below).tree H5.out.2
      rw [H5.out.1] at hTr
      have HTR := Lib.hid hTr
      clear hb2 hbase2 hTr hlk
      go_upto_region 13 with (go_at_call 38; (with_reducible refine HTR.out.mono ?_); rintro e w9 ⟨xo2, xc2, es, rfl, hb9, hn9, hm9, hx9, hv9⟩; have H9 := Lib.hid (And.intro (HM.out.beside hb9 (UnderN xo2 es) (fun i hi => ⟨hi.elim (fun ⟨_, a, ha, e⟩ => .inr (e ▸ hx9 a ha)) (fun ⟨e, he, _, a, ha, e2⟩ => .inl (e2 ▸ HST.out.tree.lt _ (hv9 e he a ha))), hi.lt hn9⟩)) (And.intro hn9 hm9)); clear hb9 hn9 hm9 hx9 hv9)
      have hp256 := HOK.out.fine.len
      have e3 : IntKind.u64.wrap ((s0.ps.length : Nat) : Int) = ((s0.ps.length : Nat) : Int) := IntWalk.u64_in _ (by omega)
      have hbl2 := HBL2.out
      go_wp2_with fail
      (with_reducible refine (H9.out.1.put s0.ps.length 2 _ 2 rfl rfl (by omega) (by omega) (by decide)).mono ?_)
      rintro e w10 ⟨o10, n10, c10, rfl, hb10⟩
      have hel : es.length = s0.ps.length := by have := congrArg List.length H9.out.2.2; simpa using this
      obtain ⟨base3, hbase3⟩ : ∃ b, base2 ++ be 2 s0.ps.length = b := ⟨_, rfl⟩
      have HBL3 := Lib.hid (show base3.length ≤ 1200 by rw [← hbase3, List.length_append, be_length]; omega)
      have HBB3 := Lib.hid hbase3
      rw [hbase3] at hb10
      have H10 := Lib.hid hb10
      have HEL := Lib.hid hel
      clear hbase3 z0 z2 z3 hb10
      go_wp2
      go_loopg [5, 9] s0.ps.length (fun g v i wr => ∃ (k : Nat) (ao : Option Addr) (m cp : Nat), g + k = s0.ps.length ∧ i = .int .i64 (k : Int) ∧ v = .slice ao m cp ∧ BldS w w9 wr ao m cp (base3 ++ ((es.take k).map Nd.pl).flatMap nodeB) (UnderN xo2 es))
      case atStart => exact ⟨0, o10, n10, c10, by omega, rfl, rfl, by simpa using H10.out⟩
      case round =>
        obtain ⟨k, ao, m, cp, hgk, rfl, rfl, hrel⟩ := hrel
        have HR2 := Lib.hid hrel
        clear hrel
        have hbl3 := HBL3.out
        have hlk : (((es.take k).map Nd.pl).flatMap nodeB).length ≤ 2000000 := by rw [List.map_take, H9.out.2.2]; exact nodes_le HOK.out k
        by_cases hk : k < s0.ps.length
        · have hki : (k : Int) < (s0.ps.length : Int) := by omega
          have hk0 : (0 : Int) ≤ (k : Int) := by omega
          obtain ⟨e, he⟩ : ∃ e, es[k]? = some e := ⟨_, List.getElem?_eq_getElem (by rw [HEL.out]; exact hk)⟩
          have hN9 := UnderN.keep H9.out.2.1 HR2.out.chg
          obtain ⟨b, off, rfl, c0, c1, c2, c3⟩ := Tr.nd_at hN9.1 he
          have hem := List.mem_of_getElem? he
          have hpm : e.pl ∈ s0.ps := by rw [← H9.out.2.2]; exact List.mem_map.2 ⟨e, hem, rfl⟩
          have q1 : e.key.size ≤ 64 := (HOK.out.key e.pl hpm).2
          have q2 : e.body.length ≤ 3840 := HOK.out.fine.body e.pl hpm
          have q3 : e.ver < 18446744073709551616 := HOK.out.fine.ver e.pl hpm
          have q4 : e.own < 18446744073709551616 := HOK.out.fine.own e.pl hpm
          have hks : e.key.data.toList.length = e.key.size := Array.length_toList ..
          have hbb : (base3 ++ ((es.take k).map Nd.pl).flatMap nodeB).length ≤ 2001200 := by rw [List.length_append]; omega
          have HC := Lib.hid (fun (W : World) (o : Option Addr) (x y : Nat) (B : List UInt8) (hW : BldS w w9 W o x y B (UnderN (some ⟨b, off, none⟩) es)) => rq_cells H9.out.2.1 hW he)
          have HE := Lib.hid (And.intro he hem)
          have kt := run_bytes_of_string (P := Tryz.prog) wr.drew 9 25 5 e.key Tryz.underlying9 Tryz.underlying25 Tryz.underlying5
          have hS0 : wr.drew.cell? ⟨b, off + k * 4, none⟩ = some (.string e.key) ∧ wr.drew.cell? ⟨b, off + k * 4 + 1, none⟩ = some (.slice e.vo e.body.length e.vc) := ⟨c0, c1⟩
          have hSa : ∀ o, (wr.drew.alloc o).drew.cell? ⟨b, off + k * 4, none⟩ = some (.string e.key) ∧ (wr.drew.alloc o).drew.cell? ⟨b, off + k * 4 + 1, none⟩ = some (.slice e.vo e.body.length e.vc) := fun o => by
            obtain ⟨x0, x1, _⟩ := HC.out _ _ _ _ _ (HR2.out.stays (((Below.refl _ wr).drew.alloc (Nat.le_refl _) o).drew))
            exact ⟨x0, x1⟩
          clear he hem hpm hN9 c0 c1 c2 c3
          go_wp2
          -- HAND17
          refine wp_region_held_drew (S := fun wx => wx.cell? ⟨b, off + k * 4, none⟩ = some (.string e.key) ∧ wx.cell? ⟨b, off + k * 4 + 1, none⟩ = some (.slice e.vo e.body.length e.vc)) (by kernel_rfl) hS0 (fun hHeld => ?_)
          refine wpAnyH_take (i := 0) (oi := { dst := some 99, op := Op.move (Operand.tmp 5), type := 25, pos := "ref.go:312", after := #[], guard := none }) (v := ?v0x1) rfl (by kernel_rfl) (by kernel_rfl) (by kernel_rfl) (fun _ _ _ h => h) (Or.inl ⟨by rfl, ?hy0x1⟩) (by assumption) ?rest0x1
          case hy0x1 => (intro w hSw; (try dsimp only at hSw); go_simp; all_goals (with_reducible rfl))
          (try simp only [Act.put, List.setIfInBounds_toArray, List.set_cons_zero, List.set_cons_succ])
          refine wpAnyH_take (i := 1) (oi := { dst := some 100, op := Op.move (Operand.tmp 8), type := 29, pos := "ref.go:312", after := #[], guard := none }) (v := ?v1x2) rfl (by kernel_rfl) (by kernel_rfl) (by kernel_rfl) (fun _ _ _ h => h) (Or.inl ⟨by rfl, ?hy1x2⟩) (by assumption) ?rest1x2
          case hy1x2 => (intro w hSw; (try dsimp only at hSw); go_simp; all_goals (with_reducible rfl))
          (try simp only [Act.put, List.setIfInBounds_toArray, List.set_cons_zero, List.set_cons_succ])
          refine wpAnyH_take (i := 2) (oi := { dst := some 101, op := Op.move (Operand.tmp 9), type := 3, pos := "ref.go:312", after := #[], guard := none }) (v := ?v2x3) rfl (by kernel_rfl) (by kernel_rfl) (by kernel_rfl) (fun _ _ _ h => h) (Or.inl ⟨by rfl, ?hy2x3⟩) (by assumption) ?rest2x3
          case hy2x3 => (intro w hSw; (try dsimp only at hSw); go_simp; all_goals (with_reducible rfl))
          (try simp only [Act.put, List.setIfInBounds_toArray, List.set_cons_zero, List.set_cons_succ])
          refine wpAnyH_take (i := 3) (oi := { dst := some 102, op := Op.indexAddr 29 (Operand.tmp 100) (Operand.tmp 101), type := 0, pos := "ref.go:312", after := #[{ on := 1, ground := Ground.data }, { on := 2, ground := Ground.data }], guard := none }) (v := ?v3x4) rfl (by kernel_rfl) (by kernel_rfl) (by kernel_rfl) (fun _ _ _ h => h) (Or.inl ⟨by rfl, ?hy3x4⟩) (by assumption) ?rest3x4
          case hy3x4 => (intro w hSw; (try dsimp only at hSw); go_simp; all_goals (with_reducible rfl))
          (try simp only [Act.put, List.setIfInBounds_toArray, List.set_cons_zero, List.set_cons_succ])
          refine wpAnyH_take (i := 4) (oi := { dst := some 103, op := Op.fieldAddr 78 (Operand.tmp 102) 0, type := 0, pos := "ref.go:312", after := #[{ on := 3, ground := Ground.data }], guard := none }) (v := ?v4x5) rfl (by kernel_rfl) (by kernel_rfl) (by kernel_rfl) (fun _ _ _ h => h) (Or.inl ⟨by rfl, ?hy4x5⟩) (by assumption) ?rest4x5
          case hy4x5 => (intro w hSw; (try dsimp only at hSw); go_simp; all_goals (with_reducible rfl))
          (try simp only [Act.put, List.setIfInBounds_toArray, List.set_cons_zero, List.set_cons_succ])
          refine wpAnyH_take (i := 5) (oi := { dst := some 104, op := Op.load 9 (Operand.tmp 103), type := 9, pos := "ref.go:312", after := #[{ on := 4, ground := Ground.data }], guard := none }) (v := ?v5x6) rfl (by kernel_rfl) (by kernel_rfl) (by kernel_rfl) (fun _ _ _ h => h) (Or.inl ⟨by rfl, ?hy5x6⟩) (by assumption) ?rest5x6
          case hy5x6 => (intro w hSw; (try dsimp only at hSw); go_simp; all_goals (with_reducible rfl))
          (try simp only [Act.put, List.setIfInBounds_toArray, List.set_cons_zero, List.set_cons_succ])
          refine wpAnyH_take (i := 8) (oi := { dst := some 107, op := Op.move (Operand.tmp 8), type := 29, pos := "ref.go:312", after := #[], guard := none }) (v := ?v8x7) rfl (by kernel_rfl) (by kernel_rfl) (by kernel_rfl) (fun _ _ _ h => h) (Or.inl ⟨by rfl, ?hy8x7⟩) (by assumption) ?rest8x7
          case hy8x7 => (intro w hSw; (try dsimp only at hSw); go_simp; all_goals (with_reducible rfl))
          (try simp only [Act.put, List.setIfInBounds_toArray, List.set_cons_zero, List.set_cons_succ])
          refine wpAnyH_take (i := 9) (oi := { dst := some 108, op := Op.move (Operand.tmp 9), type := 3, pos := "ref.go:312", after := #[], guard := none }) (v := ?v9x8) rfl (by kernel_rfl) (by kernel_rfl) (by kernel_rfl) (fun _ _ _ h => h) (Or.inl ⟨by rfl, ?hy9x8⟩) (by assumption) ?rest9x8
          case hy9x8 => (intro w hSw; (try dsimp only at hSw); go_simp; all_goals (with_reducible rfl))
          (try simp only [Act.put, List.setIfInBounds_toArray, List.set_cons_zero, List.set_cons_succ])
          refine wpAnyH_take (i := 10) (oi := { dst := some 109, op := Op.indexAddr 29 (Operand.tmp 107) (Operand.tmp 108), type := 0, pos := "ref.go:312", after := #[{ on := 8, ground := Ground.data }, { on := 9, ground := Ground.data }], guard := none }) (v := ?v10x9) rfl (by kernel_rfl) (by kernel_rfl) (by kernel_rfl) (fun _ _ _ h => h) (Or.inl ⟨by rfl, ?hy10x9⟩) (by assumption) ?rest10x9
          case hy10x9 => (intro w hSw; (try dsimp only at hSw); go_simp; all_goals (with_reducible rfl))
          (try simp only [Act.put, List.setIfInBounds_toArray, List.set_cons_zero, List.set_cons_succ])
          refine wpAnyH_take (i := 11) (oi := { dst := some 110, op := Op.fieldAddr 78 (Operand.tmp 109) 1, type := 0, pos := "ref.go:312", after := #[{ on := 10, ground := Ground.data }], guard := none }) (v := ?v11x10) rfl (by kernel_rfl) (by kernel_rfl) (by kernel_rfl) (fun _ _ _ h => h) (Or.inl ⟨by rfl, ?hy11x10⟩) (by assumption) ?rest11x10
          case hy11x10 => (intro w hSw; (try dsimp only at hSw); go_simp; all_goals (with_reducible rfl))
          (try simp only [Act.put, List.setIfInBounds_toArray, List.set_cons_zero, List.set_cons_succ])
          refine wpAnyH_take (i := 12) (oi := { dst := some 111, op := Op.load 25 (Operand.tmp 110), type := 25, pos := "ref.go:312", after := #[{ on := 11, ground := Ground.data }], guard := none }) (v := ?v12x11) rfl (by kernel_rfl) (by kernel_rfl) (by kernel_rfl) (fun _ _ _ h => h) (Or.inl ⟨by rfl, ?hy12x11⟩) (by assumption) ?rest12x11
          case hy12x11 => (intro w hSw; (try dsimp only at hSw); go_simp; all_goals (with_reducible rfl))
          (try simp only [Act.put, List.setIfInBounds_toArray, List.set_cons_zero, List.set_cons_succ])
          refine wpAnyH_ready (rs := [6]) (by kernel_rfl) (by simp) ?_
          refine AllReadyH.cons (o := { dst := some 105, op := Op.convert 9 25 (Operand.tmp 104), type := 25, pos := "ref.go:312", after := #[{ on := 5, ground := Ground.data }], guard := none }) rfl (fun K hK => ?_) AllReadyH.nil
          go_simp
          refine hK.out _ _ (hSa _) (fun hHeld => ?_)
          clear hK K
          (try simp only [Act.put, List.setIfInBounds_toArray, List.set_cons_zero, List.set_cons_succ])
          refine wpAnyH_ready (rs := [7]) (by kernel_rfl) (by simp) ?_
          refine AllReadyH.cons (o := { dst := some 106, op := Op.call { callee := Callee.value (Operand.func 37), args := #[Operand.tmp 99, Operand.tmp 105], argTypes := #[25, 25] }, type := 25, pos := "ref.go:312", after := #[{ on := 0, ground := Ground.data }, { on := 6, ground := Ground.data }], guard := none }) rfl (fun K hK => ?_) AllReadyH.nil
          go_simp
          go_at_call 37
          (with_reducible refine (HR2.out.strd e.key _ _ _ (by omega) (by omega)).mono ?_)
          rintro e9 w11 ⟨o11, n11, c11, rfl, hb11⟩
          obtain ⟨x0, x1, _, _, xb, xd⟩ := HC.out _ _ _ _ _ hb11
          have hS2 := And.intro x0 x1
          have H11 := Lib.hid (And.intro hb11 (And.intro xb xd))
          clear hb11 xb xd x0 x1
          go_wp2_with fail
          refine hK.out _ _ (hS2) (fun hHeld => ?_)
          clear hK K
          (try simp only [Act.put, List.setIfInBounds_toArray, List.set_cons_zero, List.set_cons_succ])
          refine wpAnyH_ready (rs := [13]) (by kernel_rfl) (by simp) ?_
          refine AllReadyH.cons (o := { dst := some 112, op := Op.call { callee := Callee.value (Operand.func 37), args := #[Operand.tmp 106, Operand.tmp 111], argTypes := #[25, 25] }, type := 25, pos := "ref.go:312", after := #[{ on := 7, ground := Ground.data }, { on := 12, ground := Ground.data }, { on := 7, ground := Ground.chain }], guard := none }) rfl (fun K hK => ?_) AllReadyH.nil
          go_simp
          go_at_call 37
          (with_reducible refine (H11.out.1.bytes e.vo _ _ e.body rfl H11.out.2.1 H11.out.2.2 (by simp only [List.length_append, be_length]; omega) (by omega)).mono ?_)
          rintro e9 w12 ⟨o12, n12, c12, rfl, hb12⟩
          obtain ⟨x0, x1, x2, x3, _, _⟩ := HC.out _ _ _ _ _ hb12
          have hS3 := And.intro x0 x1
          have H12 := Lib.hid hb12
          clear hb12 x0 x1
          go_wp2_with fail
          refine hK.out _ _ (hS3) (fun hHeld => ?_)
          clear hK K
          (try simp only [Act.put, List.setIfInBounds_toArray, List.set_cons_zero, List.set_cons_succ])
          refine wpAnyH_ready (rs := [14]) (by kernel_rfl) (by simp) ?_
          refine AllReadyH.cons (o := { dst := some 5, op := Op.assign (Operand.tmp 112), type := 25, pos := "ref.go:312", after := #[{ on := 13, ground := Ground.data }, { on := 13, ground := Ground.chain }, { on := 0, ground := Ground.phase }, { on := 1, ground := Ground.phase }, { on := 2, ground := Ground.phase }, { on := 3, ground := Ground.phase }, { on := 4, ground := Ground.phase }, { on := 5, ground := Ground.phase }, { on := 6, ground := Ground.phase }, { on := 7, ground := Ground.phase }, { on := 8, ground := Ground.phase }, { on := 9, ground := Ground.phase }, { on := 10, ground := Ground.phase }, { on := 11, ground := Ground.phase }, { on := 12, ground := Ground.phase }, { on := 13, ground := Ground.phase }], guard := none }) rfl (fun K hK => ?_) AllReadyH.nil
          go_simp
          refine hK.out _ _ (hS3) (fun hHeld => ?_)
          clear hK K
          (try simp only [Act.put, List.setIfInBounds_toArray, List.set_cons_zero, List.set_cons_succ])
          refine wpAnyH_done (by kernel_rfl) ?_ _
          -- HANDEND17
          have hN3 := HC.out _ _ _ _ _ (H12.out.stays (Below.refl _ _).drew)
          have HD12 := Lib.hid (H12.out.stays (Below.refl _ _).drew)
          have hS4 : w12.drew.cell? ⟨b, off + k * 4 + 2, none⟩ = some (.int .u64 (e.ver : Int)) ∧ w12.drew.cell? ⟨b, off + k * 4 + 3, none⟩ = some (.int .u64 (e.own : Int)) := ⟨hN3.2.2.1, hN3.2.2.2.1⟩
          clear hN3 hS0 hSa hS2 hS3 kt
          go_wp2
          go_region_held3 (fun wx => wx.cell? ⟨b, off + k * 4 + 2, none⟩ = some (.int .u64 (e.ver : Int)) ∧ wx.cell? ⟨b, off + k * 4 + 3, none⟩ = some (.int .u64 (e.own : Int)))
            (first | exact hS4 | exact hS5 | exact hS6)
            (first
              | (go_at_call 36; ((with_reducible refine (HD12.out.put e.ver 8 _ 8 rfl rfl (by simp only [List.length_append, be_length]; omega) q3 (by decide)).mono ?_); rintro e9 w13 ⟨o13, n13, c13, rfl, hb13⟩; obtain ⟨_, _, x2, x3, _, _⟩ := HC.out _ _ _ _ _ hb13; have hS5 := And.intro x2 x3; have H13 := Lib.hid hb13; clear hb13 x2 x3))
              | (go_at_call 36; ((with_reducible refine (H13.out.put e.own 8 _ 8 rfl rfl (by simp only [List.length_append, be_length]; omega) q4 (by decide)).mono ?_); rintro e9 w14 ⟨o14, n14, c14, rfl, hb14⟩; obtain ⟨_, _, x2, x3, _, _⟩ := HC.out _ _ _ _ _ hb14; have hS6 := And.intro x2 x3; have H14 := Lib.hid hb14; clear hb14 x2 x3)))
          have hfin := H14.out
          have e9 : base3 ++ ((es.take (k + 1)).map Nd.pl).flatMap nodeB = base3 ++ ((es.take k).map Nd.pl).flatMap nodeB ++ be 4 e.key.size ++ e.key.data.toList ++ be 4 e.body.length ++ e.body ++ be 8 e.ver ++ be 8 e.own := by rw [node_take HE.out.1]; simp
          rw [← e9] at hfin
          have HF := Lib.hid hfin
          clear hfin hS6 e9
          go_wp2
          go_roundg (gk - 1)
          case measure => omega
          case rel => exact ⟨k + 1, o14, n14, c14, by omega, by go_num, rfl, HF.out⟩
        · obtain rfl : k = s0.ps.length := by omega
          have hki : ¬ ((s0.ps.length : Nat) : Int) < ((s0.ps.length : Nat) : Int) := by omega
          have hb2 := HR2.out.bld
          have e : base3 ++ ((es.take s0.ps.length).map Nd.pl).flatMap nodeB = recS s0 := by
            rw [← HEL.out, List.take_length, H9.out.2.2, ← HBB3.out, ← HBB2.out, ← HBB.out, ← HBK.out.2.2.2]; simp [recS]
          rw [e] at hb2
          have HD := Lib.hid hb2
          clear hb2 e
          go_wp2
          go_ret
          exact ⟨ao, m, cp, rfl, HD.out⟩
-- END1
end Go.Proofs.YtackmgmaippajaaGreat
