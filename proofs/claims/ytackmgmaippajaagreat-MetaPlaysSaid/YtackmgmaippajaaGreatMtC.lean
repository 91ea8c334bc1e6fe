/-
  LAYER 8: a command's record, a state's record.
-/
import Derived.Test.YtackmgmaippajaaGreatMtP
namespace Go.Proofs.YtackmgmaippajaaGreat
open Go Go.RowKit

theorem cells6 {w0 w : World} {T : Nat} {a b c d e f : Value} {t : TypeId} (h : w0.heap[T]? = some (.cells #[a, b, c, d, e, f] t (0, 0))) (hb : Below w0.heap.size w0 w) :
    w.cell? ⟨T, 0, none⟩ = some a ∧ w.cell? ⟨T, 1, none⟩ = some b ∧ w.cell? ⟨T, 2, none⟩ = some c ∧ w.cell? ⟨T, 3, none⟩ = some d ∧ w.cell? ⟨T, 4, none⟩ = some e ∧ w.cell? ⟨T, 5, none⟩ = some f := by
  have h := (Chg.of_below hb (fun _ => False)).heap h (fun h => h)
  have h0 := heap_cell h 0
  have h1 := heap_cell h 1
  have h2 := heap_cell h 2
  have h3 := heap_cell h 3
  have h4 := heap_cell h 4
  have h5 := heap_cell h 5
  simp at h0 h1 h2 h3 h4 h5
  exact ⟨h0, h1, h2, h3, h4, h5⟩
theorem cells3b {w0 w : World} {T : Nat} {a b c : Value} {t : TypeId} (h : w0.heap[T]? = some (.cells #[a, b, c] t (0, 0))) (hb : Below w0.heap.size w0 w) :
    w.cell? ⟨T, 0, none⟩ = some a ∧ w.cell? ⟨T, 1, none⟩ = some b ∧ w.cell? ⟨T, 2, none⟩ = some c := by
  have h := (Chg.of_below hb (fun _ => False)).heap h (fun h => h)
  have h0 := heap_cell h 0
  have h1 := heap_cell h 1
  have h2 := heap_cell h 2
  simp at h0 h1 h2
  exact ⟨h0, h1, h2⟩
/-! ### a writer beside things that are read -/
/-- A writer of one's own (behind w0) whose writing leaves the blocks S of w1 as they are. -/
def WrBy (w0 w1 w : World) (p : Nat) (bs : List UInt8) (S : Nat → Prop) : Prop :=
  ∃ F, WrAt w p bs F ∧ (∀ k ∈ F, w0.heap.size ≤ k ∧ ¬ S k) ∧ Below w0.heap.size w0 w ∧ Chg (fun k => ¬ S k) w1 w ∧ ∀ k, S k → k < w1.heap.size
theorem WrBy.mine {w0 w1 w : World} {p : Nat} {bs : List UInt8} {S : Nat → Prop} (h : WrBy w0 w1 w p bs S) : WrMine w0 w p bs := by
  obtain ⟨F, h1, h2, h3, _⟩ := h
  exact ⟨F, h1, fun k hk => (h2 k hk).1, h3⟩
theorem WrBy.chg {w0 w1 w : World} {p : Nat} {bs : List UInt8} {S : Nat → Prop} (h : WrBy w0 w1 w p bs S) : Chg (fun k => ¬ S k) w1 w := by
  obtain ⟨F, _, _, _, h4, _⟩ := h
  exact h4
/-- Things made anew behind the writer. -/
theorem WrMine.by' {w0 w w1 : World} {p : Nat} {bs : List UInt8} {S : Nat → Prop} (h : WrMine w0 w p bs) (hb : Below w.heap.size w w1) (hS : ∀ k, S k → w.heap.size ≤ k ∧ k < w1.heap.size) : WrBy w0 w1 w1 p bs S := by
  obtain ⟨F, h1, h2, h3⟩ := h
  refine ⟨F, h1.keep (Chg.of_below hb (fun _ => False)) (fun _ _ h => h), fun k hk => ⟨h2 k hk, fun hs => ?_⟩, h3.trans (hb.mono h3.size), Chg.refl _ _, fun k hk => (hS k hk).2⟩
  have := h1.lt k hk
  have := (hS k hs).1
  omega
theorem WrBy.stays {w0 w1 w w' : World} {p : Nat} {bs : List UInt8} {S : Nat → Prop} (h : WrBy w0 w1 w p bs S) (hb : Below w.heap.size w w') : WrBy w0 w1 w' p bs S := by
  obtain ⟨F, h1, h2, h3, h4, h5⟩ := h
  exact ⟨F, h1.keep (Chg.of_below hb (fun _ => False)) (fun _ _ h => h), h2, h3.trans (hb.mono h3.size), h4.trans (Chg.of_below hb _) (fun _ _ h => h), h5⟩
theorem WrBy.now {w0 w1 w w' : World} {p : Nat} {bs' : List UInt8} {F : List Nat} {S : Nat → Prop} (h2 : ∀ k ∈ F, w0.heap.size ≤ k ∧ ¬ S k) (h3 : Below w0.heap.size w0 w) (h4 : Chg (fun k => ¬ S k) w1 w) (h5 : ∀ k, S k → k < w1.heap.size) (hn : WrNow w p F bs' w') : WrBy w0 w1 w' p bs' S := by
  obtain ⟨F', g1, g2, g3⟩ := hn
  refine ⟨F', g1, fun k hk => ?_, h3.trans (g2.below h3.size (fun k hk => (h2 k hk).1)), h4.trans g2 (fun i _ hi => (h2 i hi).2), h5⟩
  rcases g3 k hk with h | h
  · exact h2 k h
  · exact ⟨Nat.le_trans h3.size h, fun hs => by have := h5 k hs; have := h4.size; omega⟩
theorem u64_by {w0 w1 w : World} {p : Nat} {bs : List UInt8} {S : Nat → Prop} (h : WrBy w0 w1 w p bs S) (N : Int) (n : Nat) (hN : N = (n : Int)) (hn : n < 18446744073709551616) (hb : bs.length ≤ 70368744177664) :
    Calls Tryz.prog 90 #[.pointer (some ⟨p, 0, none⟩), .int .u64 N] w fun e w' => e = .returned (.tuple #[]) ∧ WrBy w0 w1 w' p (bs ++ be 8 n) S := by
  subst hN
  obtain ⟨F, h1, h2, h3, h4, h5⟩ := h
  exact (u64_any p bs F n w h1 hn hb).mono fun e w' he => ⟨he.1, WrBy.now h2 h3 h4 h5 he.2⟩
/-- Bytes that lie in S. -/
theorem bytes_by {w0 w1 w : World} {p : Nat} {bs : List UInt8} {S : Nat → Prop} (h : WrBy w0 w1 w p bs S) (bo : Option Addr) (n c : Nat) (ys : List UInt8) (hl : ys.length = n) (hy : Bts w1 bo ys) (hS : ∀ a, bo = some a → S a.block) (hn : n ≤ 4294967295) (hb : bs.length ≤ 4398046511104) :
    Calls Tryz.prog 89 #[.pointer (some ⟨p, 0, none⟩), .slice bo n c] w fun e w' => e = .returned (.tuple #[]) ∧ WrBy w0 w1 w' p (bs ++ (be 4 n ++ ys)) S := by
  obtain ⟨F, h1, h2, h3, h4, h5⟩ := h
  refine (wbytes_any p bs F bo n c ys w h1 hl (h4.row hy (fun a ha h => h (hS a ha))) (fun _ a ha hk => (h2 _ hk).2 (hS a ha)) hn hb).mono fun e w' he => ⟨he.1, WrBy.now h2 h3 h4 h5 (by rw [← List.append_assoc]; exact he.2)⟩
/-- A string's bytes, laid anew ahead of the call. -/
theorem strb_by {w0 w1 w : World} {p : Nat} {bs : List UInt8} {S : Nat → Prop} (h : WrBy w0 w1 w p bs S) (s : ByteArray) (cap : Nat) (t : TypeId) (fz : Nat × Nat) (hn : s.size ≤ 4294967295) (hb : bs.length ≤ 4398046511104) :
    Calls Tryz.prog 89 #[.pointer (some ⟨p, 0, none⟩), .slice (some ⟨w.heap.size, 0, none⟩) s.size cap] (w.alloc (.cells (bytesRow s cap) t fz)).drew fun e w' => e = .returned (.tuple #[]) ∧ WrBy w0 w1 w' p (bs ++ (be 4 s.size ++ s.data.toList)) S := by
  have hb' := ((Below.refl w.heap.size w).alloc (Nat.le_refl _) (.cells (bytesRow s cap) t fz)).drew
  obtain ⟨F, h1, h2, h3, h4, h5⟩ := h
  have h1' : WrAt (w.alloc (.cells (bytesRow s cap) t fz)).drew p bs F := h1.keep (Chg.of_below hb' (fun _ => False)) (fun _ _ h => h)
  refine (wbytes_any p bs F _ s.size cap s.data.toList _ h1' (Array.length_toList ..) (bytesRow_bts w s cap t fz).drew (fun _ a ha hk => ?_) hn hb).mono fun e w' he => ⟨he.1, WrBy.now h2 (h3.trans (hb'.mono h3.size)) (h4.trans (Chg.of_below hb' _) (fun _ _ h => h)) h5 (by rw [← List.append_assoc]; exact he.2)⟩
  cases ha
  exact Nat.lt_irrefl _ (h1.lt _ hk)
theorem recC_len (c : Cm) : (recC c).length = 1 + (4 + c.key.size) + (4 + c.val.length) + 24 := by
  have hk : c.key.data.toList.length = c.key.size := Array.length_toList ..
  simp only [recC, List.length_append, be_length, hk]
-- BEGIN1
set_option maxHeartbeats 4000000 in
set_option maxRecDepth 100000 in
theorem rec_cmd (s0 s1 s2 : Value) (c : Cm) (vo : Option Addr) (vc : Nat) (w : World) (hc : c.Fit) (hk : c.kind ≠ 7) (hv : Bts w vo c.val) :
    Calls Tryz.prog 50 #[.agg #[s0, s1, s2], .agg (c.cells vo vc)] w fun e w' => ∃ bo cap, e = .returned (.slice bo (recC c).length cap) ∧ Below w.heap.size w w' ∧ Own w' 1 bo (recC c).length cap ((recC c).map cb) ∧ ∀ a, bo = some a → w.heap.size ≤ a.block := by
  have HRL := Lib.hid (recC_len c)
  have HKL := Lib.hid (show c.key.data.toList.length = c.key.size from Array.length_toList ..)
  obtain ⟨kind, key, val, want, sess, ticks⟩ := c
  obtain ⟨f1, f2, f3, f4, f5, f6⟩ := hc
  dsimp only [Cm.cells] at *
  have hki : ((kind : Int) == 7) = false := by simp; omega
  have hki' : ¬ ((kind : Int) = 7) := by omega
  have HV := Lib.hid hv
  clear hv hk
  go_enter Tryz.func50, Tryz.ntmps50
  go_upto_region 2 with fail
  have HB := Lib.hid (((Below.refl w.heap.size w).alloc (Nat.le_refl _) (.cells #[s0, s1, s2] 109)).alloc (by rw [size_alloc]; omega) (.cells #[.int .u8 (kind : Int), .string key, .slice vo val.length vc, .int .u64 (want : Int), .int .u64 (sess : Int), .int .u64 (ticks : Int)] 39))
  have hT := heap_top (w.alloc (.cells #[s0, s1, s2] 109)) (.cells #[.int .u8 (kind : Int), .string key, .slice vo val.length vc, .int .u64 (want : Int), .int .u64 (sess : Int), .int .u64 (ticks : Int)] 39)
  rw [size_alloc] at hT
  have hP : ((w.alloc (.cells #[s0, s1, s2] 109)).alloc (.cells #[.int .u8 (kind : Int), .string key, .slice vo val.length vc, .int .u64 (want : Int), .int .u64 (sess : Int), .int .u64 (ticks : Int)] 39)).heap.size = w.heap.size + 1 + 1 := by rw [size_alloc, size_alloc]
  generalize (w.alloc (.cells #[s0, s1, s2] 109)).alloc (.cells #[.int .u8 (kind : Int), .string key, .slice vo val.length vc, .int .u64 (want : Int), .int .u64 (sess : Int), .int .u64 (ticks : Int)] 39) = wb at *
  have hm := WrMine.new (Below.refl wb.heap.size wb)
  rw [hP] at hm
  have HT := Lib.hid hT
  obtain ⟨a0, a1, a2, a3, a4, a5⟩ := cells6 hT hm.below
  have H0 := Lib.hid hm
  have HS := Lib.hid hP
  clear hm hT hP
  generalize w.heap.size + 1 + 1 = P at *
  generalize w.heap.size + 1 = T at *
  generalize wb.alloc (.cells #[.slice none 0 0] 161) = w0 at *
  go_upto_region 6 with (first
    | (go_at_call 88; (with_reducible refine (u8_mine H0.out _ kind rfl f1 (by simp)).mono ?_); rintro e w1 ⟨rfl, hm⟩; obtain ⟨b0, b1, b2, b3, b4, b5⟩ := cells6 HT.out hm.below; have kt := run_bytes_of_string (P := Tryz.prog) w1 9 25 5 key Tryz.underlying9 Tryz.underlying25 Tryz.underlying5; have H1 := Lib.hid hm; clear hm)
    | (go_at_call 89; (with_reducible refine (strb_mine H1.out key _ _ _ (by omega) (by simp [be_length])).mono ?_); rintro e w2 ⟨rfl, hm⟩; obtain ⟨c0, c1, c2, c3, c4, c5⟩ := cells6 HT.out hm.below; have H2 := Lib.hid hm; clear hm)
    | (go_at_call 89; (with_reducible refine (bytes_mine H2.out vo _ vc val rfl (HV.out.below HB.out) (by omega) (by simp only [List.length_append, be_length, HKL.out, List.length_nil]; omega)).mono ?_); rintro e w3 ⟨rfl, hm⟩; obtain ⟨d0, d1, d2, d3, d4, d5⟩ := cells6 HT.out hm.below; have H3 := Lib.hid hm; clear hm))
  go_wp2
  have hb4 := (Below.refl w3.heap.size w3).alloc (Nat.le_refl _) (.cells #[.int .u64 (want : Int), .int .u64 (sess : Int), .int .u64 (ticks : Int)] 28)
  have hn4 := heap_top w3 (.cells #[.int .u64 (want : Int), .int .u64 (sess : Int), .int .u64 (ticks : Int)] 28)
  have H4 := Lib.hid (H3.out.by' (S := (· = w3.heap.size)) hb4 (fun k hk => by rw [hk, size_alloc]; omega))
  have HN := Lib.hid hn4
  clear hb4 hn4
  generalize w3.alloc (.cells #[.int .u64 (want : Int), .int .u64 (sess : Int), .int .u64 (ticks : Int)] 28) = w4 at *
  generalize w3.heap.size = nb at *
  obtain ⟨base, hbase⟩ : ∃ base, [] ++ be 1 kind ++ (be 4 key.size ++ key.data.toList) ++ (be 4 val.length ++ val) = base := ⟨_, rfl⟩
  have HBL := Lib.hid (show base.length ≤ 20000 by rw [← hbase]; simp only [List.length_append, be_length, HKL.out, List.length_nil]; omega)
  have HBB := Lib.hid hbase
  rw [hbase] at H4
  clear hbase
  go_loopg [41] 3 (fun g i wr => ∃ k : Nat, g + k = 3 ∧ i = .int .i64 k ∧ WrBy wb w4 wr P (base ++ ([want, sess, ticks].take k).flatMap (be 8)) (· = nb))
  case atStart => exact ⟨0, rfl, rfl, by simpa using H4.out⟩
  case round =>
    obtain ⟨k, hgk, rfl, hrel⟩ := hrel
    have HR := Lib.hid hrel
    have hh := hrel.chg.heap HN.out (fun h => h rfl)
    have n0 := heap_cell hh 0
    have n1 := heap_cell hh 1
    have n2 := heap_cell hh 2
    simp at n0 n1 n2
    have hbl := HBL.out
    clear hrel hh
    by_cases hk : k < 3
    · have hki : (k : Int) < 3 := by omega
      obtain ⟨x, hx, hx64, hxk⟩ : ∃ x : Nat, wr.cell? ⟨nb, 0 + k, none⟩ = some (.int .u64 (x : Int)) ∧ x < 18446744073709551616 ∧ [want, sess, ticks].take (k + 1) = [want, sess, ticks].take k ++ [x] := by
        have : k = 0 ∨ k = 1 ∨ k = 2 := by omega
        rcases this with rfl | rfl | rfl
        · exact ⟨want, n0, f4, rfl⟩
        · exact ⟨sess, n1, f5, rfl⟩
        · exact ⟨ticks, n2, f6, rfl⟩
      simp only [Nat.zero_add] at hx
      have hlk : ((List.take k [want, sess, ticks]).flatMap (be 8)).length ≤ 24 := by
        have : k = 0 ∨ k = 1 ∨ k = 2 := by omega
        rcases this with rfl | rfl | rfl <;> simp [be_length]
      have HX := Lib.hid hxk
      clear hxk n0 n1 n2
      go_wp2_with (go_at_call 90; (with_reducible refine (u64_by HR.out _ x rfl hx64 (by rw [List.length_append]; omega)).mono ?_); rintro e w5 ⟨rfl, hm⟩; have H5 := Lib.hid hm; clear hm)
      go_roundg (gk - 1)
      case measure => omega
      case rel => exact ⟨k + 1, by omega, by go_num, by have := H5.out; rw [HX.out, List.flatMap_append, ← List.append_assoc]; simpa using this⟩
    · obtain rfl : k = 3 := by omega
      have hmine := HR.out.mine
      have e : base ++ (List.take 3 [want, sess, ticks]).flatMap (be 8) = recC ⟨kind, key, val, want, sess, ticks⟩ := by rw [← HBB.out]; simp [recC]
      rw [e] at hmine
      have hdl : (recC ⟨kind, key, val, want, sess, ticks⟩).length ≤ 70368744177664 := by rw [HRL.out]; omega
      obtain ⟨R, hR⟩ : ∃ R, recC ⟨kind, key, val, want, sess, ticks⟩ = R := ⟨_, rfl⟩
      rw [hR] at hmine hdl
      have HD := Lib.hid hmine
      have HRR := Lib.hid hR
      clear hmine e hR
      go_wp2_with (go_at_call 91; (with_reducible refine (done_mine HD.out hdl).mono ?_); rintro e w6 ⟨bo, cap, rfl, hm, ho, hx⟩; have H6 := Lib.hid (And.intro hm (And.intro ho hx)); clear hm ho hx)
      go_ret
      rw [HRR.out]
      exact ⟨bo, cap, rfl, HB.out.trans (H6.out.1.below.mono HB.out.size), H6.out.2.1, fun a ha => Nat.le_trans HB.out.size (Nat.le_trans HD.out.below.size (H6.out.2.2 a ha))⟩
-- END1
end Go.Proofs.YtackmgmaippajaaGreat
