/-
  LAYER 8: the document's Record.
-/
import Derived.Test.YtackmgmaippajaaGreatRs
import Derived.Test.YtackmgmaippajaaGreatMtS
namespace Go.Proofs.YtackmgmaippajaaGreat
open Go Go.RowKit

/-- Bytes that are built behind w. -/
structure Bld (w wr : World) (ao : Option Addr) (n cap : Nat) (bs : List UInt8) : Prop where
  own : Own wr 1 ao n cap (bs.map cb)
  below : Below w.heap.size w wr
  new : ∀ a, ao = some a → w.heap.size ≤ a.block
theorem Bld.len {w wr : World} {ao : Option Addr} {n cap : Nat} {bs : List UInt8} (h : Bld w wr ao n cap bs) : bs.length = n := by
  have := h.own.len
  rw [List.length_map] at this
  omega
theorem Bld.stays {w wr w' : World} {ao : Option Addr} {n cap : Nat} {bs : List UInt8} (h : Bld w wr ao n cap bs) (hb : Below wr.heap.size wr w') : Bld w w' ao n cap bs :=
  ⟨h.own.keep (Chg.of_below hb (fun _ => False)) (fun _ _ h => h), h.below.trans (hb.mono h.below.size), h.new⟩
/-- What a call leaves that puts more behind bytes. -/
def Bld1 (w wr : World) (ao : Option Addr) (bs : List UInt8) (e : Ending) (w' : World) : Prop :=
  ∃ ao' n' cap', e = .returned (.slice ao' n' cap') ∧ Bld w w' ao' n' cap' bs ∧ Chg (fun k => ∃ a, ao = some a ∧ a.block = k) wr w' ∧ ∀ a', ao' = some a' → ao = some a' ∨ wr.heap.size ≤ a'.block
theorem Bld.app {w wr w' : World} {ao ao' : Option Addr} {n n' cap cap' : Nat} {bs bs' : List UInt8} (h : Bld w wr ao n cap bs) (ha : SlApp wr ao w' ao' n' cap' bs') : Bld w w' ao' n' cap' bs' ∧ Chg (fun k => ∃ a, ao = some a ∧ a.block = k) wr w' ∧ ∀ a', ao' = some a' → ao = some a' ∨ wr.heap.size ≤ a'.block :=
  ⟨⟨ha.own, h.below.trans (ha.chg.below h.below.size (fun k ⟨a, ha, e⟩ => e ▸ h.new a ha)), fun a' h' => (ha.at_ a' h').elim (h.new a') (Nat.le_trans h.below.size)⟩, ha.chg, ha.at_⟩
theorem bld_put {w wr : World} {ao : Option Addr} {n cap : Nat} {bs : List UInt8} (h : Bld w wr ao n cap bs) (N size : Nat) (NI SI : Int) (hNI : NI = (N : Int)) (hSI : SI = (size : Int)) (hn : bs.length ≤ 4000000) (hN : N < 18446744073709551616) (hs : size ≤ 8) :
    Calls Tryz.prog 36 #[.slice ao n cap, .int .u64 NI, .int .i64 SI] wr (Bld1 w wr ao (bs ++ be size N)) := by
  subst hNI hSI
  have hl := h.len
  refine (put_any ao n cap bs N size wr h.own (by omega) hN hs).mono ?_
  rintro e w' ⟨ao', cap', he, ha⟩
  exact ⟨ao', _, cap', he, h.app ha⟩
theorem bld_bytes {w wr : World} {ao : Option Addr} {n cap : Nat} {bs : List UInt8} (h : Bld w wr ao n cap bs) (bo : Option Addr) (m c : Nat) (ys : List UInt8) (hl : ys.length = m) (hy : Bts wr bo ys) (hd : ys ≠ [] → ∀ a, bo = some a → ∀ b, ao = some b → b.block ≠ a.block) (hn : bs.length ≤ 4000000) (hm : m ≤ 4000000) :
    Calls Tryz.prog 37 #[.slice ao n cap, .slice bo m c] wr (Bld1 w wr ao (bs ++ be 4 m ++ ys)) := by
  have hl' := h.len
  refine (putBytes_any ao n cap bs bo m c ys wr h.own hl hy hd (by omega) (by omega)).mono ?_
  rintro e w' ⟨ao', cap', he, ha⟩
  exact ⟨ao', _, cap', he, h.app ha⟩
theorem Bld.nil (w : World) : Bld w w none 0 0 [] := ⟨Own.nil' _ _, Below.refl _ _, by simp⟩
/-- A string's bytes, laid anew ahead of the call. -/
theorem bld_str {w wr : World} {ao : Option Addr} {n cap : Nat} {bs : List UInt8} (h : Bld w wr ao n cap bs) (s : ByteArray) (cp : Nat) (t : TypeId) (fz : Nat × Nat) (hs : s.size ≤ 5000) (hn : bs.length ≤ 4000000) :
    Calls Tryz.prog 37 #[.slice ao n cap, .slice (some ⟨wr.heap.size, 0, none⟩) s.size cp] (wr.alloc (.cells (bytesRow s cp) t fz)).drew (Bld1 w wr ao (bs ++ be 4 s.size ++ s.data.toList)) := by
  have hb := ((Below.refl wr.heap.size wr).alloc (Nat.le_refl _) (.cells (bytesRow s cp) t fz)).drew
  refine (bld_bytes (h.stays hb) _ s.size cp s.data.toList (Array.length_toList ..) (bytesRow_bts wr s cp t fz).drew (fun _ a ha b hb e => ?_) hn (by omega)).mono ?_
  · cases ha
    have := (h.own.at_ b hb).2.1
    dsimp only at e
    omega
  · rintro e w' ⟨ao', n', cap', he, h1, h2, h3⟩
    exact ⟨ao', n', cap', he, h1, (Chg.of_below hb _).trans h2 (fun _ _ h => h), fun a' ha' => (h3 a' ha').imp id (Nat.le_trans hb.size)⟩
/-- A string's bytes, laid anew ahead of the call. -/
theorem bld_strd {w wr : World} {ao : Option Addr} {n cap : Nat} {bs : List UInt8} (h : Bld w wr ao n cap bs) (s : ByteArray) (cp : Nat) (t : TypeId) (fz : Nat × Nat) (hs : s.size ≤ 5000) (hn : bs.length ≤ 4000000) :
    Calls Tryz.prog 37 #[.slice ao n cap, .slice (some ⟨wr.heap.size, 0, none⟩) s.size cp] (wr.alloc (.cells (bytesRow s cp) t fz)).drew.drew (Bld1 w wr ao (bs ++ be 4 s.size ++ s.data.toList)) := by
  have hb := ((Below.refl wr.heap.size wr).alloc (Nat.le_refl _) (.cells (bytesRow s cp) t fz)).drew.drew
  refine (bld_bytes (h.stays hb) _ s.size cp s.data.toList (Array.length_toList ..) (bytesRow_bts wr s cp t fz).drew.drew (fun _ a ha b hb e => ?_) hn (by omega)).mono ?_
  · cases ha
    have := (h.own.at_ b hb).2.1
    dsimp only at e
    omega
  · rintro e w' ⟨ao', n', cap', he, h1, h2, h3⟩
    exact ⟨ao', n', cap', he, h1, (Chg.of_below hb _).trans h2 (fun _ _ h => h), fun a' ha' => (h3 a' ha').imp id (Nat.le_trans hb.size)⟩
/-- Bytes that are built beside the blocks S of w1. -/
structure BldS (w w1 wr : World) (ao : Option Addr) (n cap : Nat) (bs : List UInt8) (S : Nat → Prop) : Prop where
  bld : Bld w wr ao n cap bs
  chg : Chg (fun k => ¬ S k) w1 wr
  old : ∀ k, S k → k < w1.heap.size
  ne : ∀ a, ao = some a → ¬ S a.block
def BldS1 (w w1 : World) (bs : List UInt8) (S : Nat → Prop) (e : Ending) (w' : World) : Prop := ∃ ao n cap, e = .returned (.slice ao n cap) ∧ BldS w w1 w' ao n cap bs S
theorem BldS.next {w w1 wr w' W : World} {ao : Option Addr} {n cap : Nat} {bs bs' : List UInt8} {S : Nat → Prop} {e : Ending} (h : BldS w w1 wr ao n cap bs S) (hb : Below wr.heap.size wr W) (h1 : Bld1 w W ao bs' e w') : BldS1 w w1 bs' S e w' := by
  obtain ⟨ao', n', cap', he, g1, g2, g3⟩ := h1
  refine ⟨ao', n', cap', he, g1, (h.chg.trans (Chg.of_below hb (fun _ => False)) (fun _ _ h => h.elim)).trans g2 (fun i _ ⟨a, ha, e⟩ => e ▸ h.ne a ha), h.old, fun a ha hs => ?_⟩
  rcases g3 a ha with q | q
  · exact h.ne a q hs
  · have := h.old _ hs; have := h.chg.size; have := hb.size; omega
theorem BldS.stays {w w1 wr w' : World} {ao : Option Addr} {n cap : Nat} {bs : List UInt8} {S : Nat → Prop} (h : BldS w w1 wr ao n cap bs S) (hb : Below wr.heap.size wr w') : BldS w w1 w' ao n cap bs S :=
  ⟨h.bld.stays hb, h.chg.trans (Chg.of_below hb (fun _ => False)) (fun _ _ h => h.elim), h.old, h.ne⟩
section
variable {w w1 wr : World} {ao : Option Addr} {n cap : Nat} {bs : List UInt8} {S : Nat → Prop}
theorem BldS.put (h : BldS w w1 wr ao n cap bs S) (N size : Nat) (NI SI : Int) (hNI : NI = (N : Int)) (hSI : SI = (size : Int)) (hn : bs.length ≤ 4000000) (hN : N < 18446744073709551616) (hs : size ≤ 8) :
    Calls Tryz.prog 36 #[.slice ao n cap, .int .u64 NI, .int .i64 SI] wr (BldS1 w w1 (bs ++ be size N) S) :=
  (bld_put h.bld N size NI SI hNI hSI hn hN hs).mono fun _ _ h1 => h.next (Below.refl _ _) h1
theorem BldS.bytes (h : BldS w w1 wr ao n cap bs S) (bo : Option Addr) (m c : Nat) (ys : List UInt8) (hl : ys.length = m) (hy : Bts wr bo ys) (hd : ys ≠ [] → ∀ a, bo = some a → ∀ b, ao = some b → b.block ≠ a.block) (hn : bs.length ≤ 4000000) (hm : m ≤ 4000000) :
    Calls Tryz.prog 37 #[.slice ao n cap, .slice bo m c] wr (BldS1 w w1 (bs ++ be 4 m ++ ys) S) :=
  (bld_bytes h.bld bo m c ys hl hy hd hn hm).mono fun _ _ h1 => h.next (Below.refl _ _) h1
theorem BldS.strd (h : BldS w w1 wr ao n cap bs S) (s : ByteArray) (cp : Nat) (t : TypeId) (fz : Nat × Nat) (hs : s.size ≤ 5000) (hn : bs.length ≤ 4000000) :
    Calls Tryz.prog 37 #[.slice ao n cap, .slice (some ⟨wr.heap.size, 0, none⟩) s.size cp] (wr.alloc (.cells (bytesRow s cp) t fz)).drew.drew (BldS1 w w1 (bs ++ be 4 s.size ++ s.data.toList) S) :=
  (bld_strd h.bld s cp t fz hs hn).mono fun _ _ h1 => h.next (Below.refl _ _) h1
end
-- BEGIN1
set_option maxHeartbeats 4000000 in
set_option maxRecDepth 100000 in
theorem rrec_cmd (s : St) (c : Cm) (vo : Option Addr) (vc : Nat) (q : Nat) (w : World) (hc : c.Fit) (hk : c.kind ≠ 7) (hv : Bts w vo c.val) :
    Calls Tryz.prog 11 #[.pointer (some ⟨q, 0, none⟩), .agg (c.cells vo vc)] w fun e w' => ∃ bo n cap, e = .returned (.slice bo n cap) ∧ Bld w w' bo n cap (recC c) := by
  have HKL := Lib.hid (show c.key.data.toList.length = c.key.size from Array.length_toList ..)
  obtain ⟨kind, key, val, want, sess, ticks⟩ := c
  obtain ⟨f1, f2, f3, f4, f5, f6⟩ := hc
  dsimp only [Cm.cells] at *
  have hki : ((kind : Int) == 7) = false := by simp; omega
  have hkn : ((kind : Int) != 7) = true := by simp; omega
  have hki' : ¬ ((kind : Int) = 7) := by omega
  have e1 : IntKind.u64.wrap (kind : Int) = (kind : Int) := IntWalk.u64_in _ (by omega)
  have HV := Lib.hid hv
  clear hv hk
  go_enter Tryz.func11, Tryz.ntmps11
  go_upto_region 1 with fail
  have HT := Lib.hid (heap_top w (.cells #[.int .u8 (kind : Int), .string key, .slice vo val.length vc, .int .u64 (want : Int), .int .u64 (sess : Int), .int .u64 (ticks : Int)] 39))
  have HB := Lib.hid (show BldS w (w.alloc (.cells #[.int .u8 (kind : Int), .string key, .slice vo val.length vc, .int .u64 (want : Int), .int .u64 (sess : Int), .int .u64 (ticks : Int)] 39)) (w.alloc (.cells #[.int .u8 (kind : Int), .string key, .slice vo val.length vc, .int .u64 (want : Int), .int .u64 (sess : Int), .int .u64 (ticks : Int)] 39)) none 0 0 [] (· = w.heap.size) from ⟨(Bld.nil w).stays ((Below.refl w.heap.size w).alloc (Nat.le_refl _) _), Chg.refl _ _, fun k hk => by rw [hk, size_alloc]; omega, by simp⟩)
  generalize w.alloc (.cells #[.int .u8 (kind : Int), .string key, .slice vo val.length vc, .int .u64 (want : Int), .int .u64 (sess : Int), .int .u64 (ticks : Int)] 39) = wb at *
  obtain ⟨T, hTq⟩ : ∃ T, w.heap.size = T := ⟨_, rfl⟩
  rw [hTq] at HT HB ⊢
  obtain ⟨a0, a1, a2, a3, a4, a5⟩ := cells6 HT.out (Below.refl _ _)
  go_upto_region 3 with (go_at_call 36; ((with_reducible refine (HB.out.put kind 1 _ 1 rfl rfl (by simp) (by omega) (by decide)).mono ?_); rintro e w1 ⟨o1, n1, c1, rfl, hb1⟩; have hT1 := hb1.chg.heap HT.out (fun h => h rfl); obtain ⟨b0, b1, b2, b3, b4, b5⟩ := cells6 hT1 (Below.refl _ _); have H1 := Lib.hid (And.intro hb1 hT1); clear hb1 hT1))
  have hS0 : w1.drew.cell? ⟨T, 1, none⟩ = some (.string key) ∧ w1.drew.cell? ⟨T, 2, none⟩ = some (.slice vo val.length vc) := ⟨b1, b2⟩
  have hTd : w1.drew.heap[T]? = some (.cells #[.int .u8 (kind : Int), .string key, .slice vo val.length vc, .int .u64 (want : Int), .int .u64 (sess : Int), .int .u64 (ticks : Int)] 39 (0, 0)) := H1.out.2
  have hSa : ∀ o, (w1.drew.alloc o).drew.cell? ⟨T, 1, none⟩ = some (.string key) ∧ (w1.drew.alloc o).drew.cell? ⟨T, 2, none⟩ = some (.slice vo val.length vc) := fun o => by
    obtain ⟨_, x1, x2, _⟩ := cells6 hTd ((Below.refl _ w1.drew).alloc (Nat.le_refl _) o).drew
    exact ⟨x1, x2⟩
  have kt := run_bytes_of_string (P := Tryz.prog) w1.drew 9 25 5 key Tryz.underlying9 Tryz.underlying25 Tryz.underlying5
  clear b0 b3 b4 b5 a0 a1 a2 a3 a4 a5 hTd
  -- HAND3
  refine wp_region_held_drew (S := fun wx => wx.cell? ⟨T, 1, none⟩ = some (.string key) ∧ wx.cell? ⟨T, 2, none⟩ = some (.slice vo val.length vc)) (by kernel_rfl) hS0 (fun hHeld => ?_)
  refine wpAnyH_take (i := 0) (oi := { dst := some 17, op := Op.move (Operand.tmp 5), type := 25, pos := "ref.go:300", after := #[], guard := none }) (v := ?v0x1) rfl (by kernel_rfl) (by kernel_rfl) (by kernel_rfl) (fun _ _ _ h => h) (Or.inl ⟨by rfl, ?hy0x1⟩) (by assumption) ?rest0x1
  case hy0x1 => (intro w hSw; (try dsimp only at hSw); go_simp; all_goals (with_reducible rfl))
  (try simp only [Act.put, List.setIfInBounds_toArray, List.set_cons_zero, List.set_cons_succ])
  refine wpAnyH_take (i := 1) (oi := { dst := some 18, op := Op.fieldAddr 39 (Operand.tmp 3) 1, type := 0, pos := "ref.go:300", after := #[], guard := none }) (v := ?v1x2) rfl (by kernel_rfl) (by kernel_rfl) (by kernel_rfl) (fun _ _ _ h => h) (Or.inl ⟨by rfl, ?hy1x2⟩) (by assumption) ?rest1x2
  case hy1x2 => (intro w hSw; (try dsimp only at hSw); go_simp; all_goals (with_reducible rfl))
  (try simp only [Act.put, List.setIfInBounds_toArray, List.set_cons_zero, List.set_cons_succ])
  refine wpAnyH_take (i := 2) (oi := { dst := some 19, op := Op.load 9 (Operand.tmp 18), type := 9, pos := "ref.go:300", after := #[{ on := 1, ground := Ground.data }], guard := none }) (v := ?v2x3) rfl (by kernel_rfl) (by kernel_rfl) (by kernel_rfl) (fun _ _ _ h => h) (Or.inl ⟨by rfl, ?hy2x3⟩) (by assumption) ?rest2x3
  case hy2x3 => (intro w hSw; (try dsimp only at hSw); go_simp; all_goals (with_reducible rfl))
  (try simp only [Act.put, List.setIfInBounds_toArray, List.set_cons_zero, List.set_cons_succ])
  refine wpAnyH_take (i := 5) (oi := { dst := some 22, op := Op.fieldAddr 39 (Operand.tmp 3) 2, type := 0, pos := "ref.go:300", after := #[], guard := none }) (v := ?v5x4) rfl (by kernel_rfl) (by kernel_rfl) (by kernel_rfl) (fun _ _ _ h => h) (Or.inl ⟨by rfl, ?hy5x4⟩) (by assumption) ?rest5x4
  case hy5x4 => (intro w hSw; (try dsimp only at hSw); go_simp; all_goals (with_reducible rfl))
  (try simp only [Act.put, List.setIfInBounds_toArray, List.set_cons_zero, List.set_cons_succ])
  refine wpAnyH_take (i := 6) (oi := { dst := some 23, op := Op.load 25 (Operand.tmp 22), type := 25, pos := "ref.go:300", after := #[{ on := 5, ground := Ground.data }], guard := none }) (v := ?v6x5) rfl (by kernel_rfl) (by kernel_rfl) (by kernel_rfl) (fun _ _ _ h => h) (Or.inl ⟨by rfl, ?hy6x5⟩) (by assumption) ?rest6x5
  case hy6x5 => (intro w hSw; (try dsimp only at hSw); go_simp; all_goals (with_reducible rfl))
  (try simp only [Act.put, List.setIfInBounds_toArray, List.set_cons_zero, List.set_cons_succ])
  refine wpAnyH_ready (rs := [3]) (by kernel_rfl) (by simp) ?_
  refine AllReadyH.cons (o := { dst := some 20, op := Op.convert 9 25 (Operand.tmp 19), type := 25, pos := "ref.go:300", after := #[{ on := 2, ground := Ground.data }], guard := none }) rfl (fun K hK => ?_) AllReadyH.nil
  go_simp
  refine hK.out _ _ (hSa _) (fun hHeld => ?_)
  clear hK K
  (try simp only [Act.put, List.setIfInBounds_toArray, List.set_cons_zero, List.set_cons_succ])
  refine wpAnyH_ready (rs := [4]) (by kernel_rfl) (by simp) ?_
  refine AllReadyH.cons (o := { dst := some 21, op := Op.call { callee := Callee.value (Operand.func 37), args := #[Operand.tmp 17, Operand.tmp 20], argTypes := #[25, 25] }, type := 25, pos := "ref.go:300", after := #[{ on := 0, ground := Ground.data }, { on := 3, ground := Ground.data }], guard := none }) rfl (fun K hK => ?_) AllReadyH.nil
  go_simp
  go_at_call 37
  (with_reducible refine (H1.out.1.strd key _ _ _ f2 (by simp [be_length])).mono ?_)
  rintro e w2 ⟨o2, n2, c2, rfl, hb2⟩
  have hT2 := hb2.chg.heap HT.out (fun h => h rfl)
  obtain ⟨_, d1, d2, _⟩ := cells6 hT2 (Below.refl _ _)
  have H2 := Lib.hid (And.intro hb2 hT2)
  clear hb2 hT2
  go_wp2_with fail
  refine hK.out _ _ (⟨d1, d2⟩) (fun hHeld => ?_)
  clear hK K
  (try simp only [Act.put, List.setIfInBounds_toArray, List.set_cons_zero, List.set_cons_succ])
  refine wpAnyH_ready (rs := [7]) (by kernel_rfl) (by simp) ?_
  refine AllReadyH.cons (o := { dst := some 24, op := Op.call { callee := Callee.value (Operand.func 37), args := #[Operand.tmp 21, Operand.tmp 23], argTypes := #[25, 25] }, type := 25, pos := "ref.go:300", after := #[{ on := 4, ground := Ground.data }, { on := 6, ground := Ground.data }, { on := 4, ground := Ground.chain }], guard := none }) rfl (fun K hK => ?_) AllReadyH.nil
  go_simp
  go_at_call 37
  (with_reducible refine (H2.out.1.bytes vo val.length vc val rfl (HV.out.below H2.out.1.bld.below) (fun hz a ha b hb e => by have := bts_lt HV.out hz a ha; have := H2.out.1.bld.new b hb; omega) (by simp only [List.length_append, be_length, HKL.out, List.length_nil]; omega) (by omega)).mono ?_)
  rintro e w3 ⟨o3, n3, c3, rfl, hb3⟩
  have hT3 := hb3.chg.heap HT.out (fun h => h rfl)
  obtain ⟨g0, g1, g2, g3, g4, g5⟩ := cells6 hT3 (Below.refl _ _)
  have H3 := Lib.hid (And.intro hb3 hT3)
  clear hb3 hT3
  go_wp2_with fail
  refine hK.out _ _ (⟨g1, g2⟩) (fun hHeld => ?_)
  clear hK K
  (try simp only [Act.put, List.setIfInBounds_toArray, List.set_cons_zero, List.set_cons_succ])
  refine wpAnyH_ready (rs := [8]) (by kernel_rfl) (by simp) ?_
  refine AllReadyH.cons (o := { dst := some 5, op := Op.assign (Operand.tmp 24), type := 25, pos := "ref.go:300", after := #[{ on := 7, ground := Ground.data }, { on := 7, ground := Ground.chain }, { on := 0, ground := Ground.phase }, { on := 1, ground := Ground.phase }, { on := 2, ground := Ground.phase }, { on := 3, ground := Ground.phase }, { on := 4, ground := Ground.phase }, { on := 5, ground := Ground.phase }, { on := 6, ground := Ground.phase }, { on := 7, ground := Ground.phase }], guard := none }) rfl (fun K hK => ?_) AllReadyH.nil
  go_simp
  refine hK.out _ _ (⟨g1, g2⟩) (fun hHeld => ?_)
  clear hK K
  (try simp only [Act.put, List.setIfInBounds_toArray, List.set_cons_zero, List.set_cons_succ])
  refine wpAnyH_done (by kernel_rfl) ?_ _
  -- HANDEND3
  have hS0' : w3.drew.cell? ⟨T, 3, none⟩ = some (.int .u64 (want : Int)) ∧ w3.drew.cell? ⟨T, 4, none⟩ = some (.int .u64 (sess : Int)) ∧ w3.drew.cell? ⟨T, 5, none⟩ = some (.int .u64 (ticks : Int)) := ⟨g3, g4, g5⟩
  have HD3 := Lib.hid (H3.out.1.stays (Below.refl _ _).drew)
  clear g0 g1 g2 g3 g4 g5 d1 d2 kt hS0 hSa
  obtain ⟨X3, hX3⟩ : ∃ X, [] ++ be 1 kind ++ be 4 key.size ++ key.data.toList ++ be 4 val.length ++ val = X := ⟨_, rfl⟩
  have HXL := Lib.hid (show X3.length ≤ 20000 by rw [← hX3]; simp only [List.length_append, be_length, HKL.out, List.length_nil]; omega)
  have HX := Lib.hid hX3
  rw [hX3] at HD3
  clear hX3
  go_wp2
  go_region_held3 (fun wx => wx.cell? ⟨T, 3, none⟩ = some (.int .u64 (want : Int)) ∧ wx.cell? ⟨T, 4, none⟩ = some (.int .u64 (sess : Int)) ∧ wx.cell? ⟨T, 5, none⟩ = some (.int .u64 (ticks : Int)))
    (first | exact hS0' | exact hS4 | exact hS5 | exact hS6)
    (first
      | (go_at_call 36; ((with_reducible refine (HD3.out.put want 8 _ 8 rfl rfl (by have := HXL.out; omega) f4 (by decide)).mono ?_); rintro e w4 ⟨o4, n4, c4, rfl, hb4⟩; obtain ⟨_, _, _, x3, x4, x5⟩ := cells6 (hb4.chg.heap HT.out (fun h => h rfl)) (Below.refl _ _); have hS4 := And.intro x3 (And.intro x4 x5); have H4 := Lib.hid hb4; clear hb4 x3 x4 x5))
      | (go_at_call 36; ((with_reducible refine (H4.out.put sess 8 _ 8 rfl rfl (by have := HXL.out; simp only [List.length_append, be_length]; omega) f5 (by decide)).mono ?_); rintro e w5 ⟨o5, n5, c5, rfl, hb5⟩; obtain ⟨_, _, _, x3, x4, x5⟩ := cells6 (hb5.chg.heap HT.out (fun h => h rfl)) (Below.refl _ _); have hS5 := And.intro x3 (And.intro x4 x5); have H5 := Lib.hid hb5; clear hb5 x3 x4 x5))
      | (go_at_call 36; ((with_reducible refine (H5.out.put ticks 8 _ 8 rfl rfl (by have := HXL.out; simp only [List.length_append, be_length]; omega) f6 (by decide)).mono ?_); rintro e w6 ⟨o6, n6, c6, rfl, hb6⟩; obtain ⟨_, _, _, x3, x4, x5⟩ := cells6 (hb6.chg.heap HT.out (fun h => h rfl)) (Below.refl _ _); have hS6 := And.intro x3 (And.intro x4 x5); have H6 := Lib.hid hb6; clear hb6 x3 x4 x5)))
  go_wp2
  go_ret
  have := H6.out.bld
  rw [← HX.out] at this
  refine ⟨o6, n6, c6, rfl, ?_⟩
  simpa [recC] using this
-- END1
end Go.Proofs.YtackmgmaippajaaGreat
