/-
  LAYER 8: a state's record.
-/
import Derived.Test.YtackmgmaippajaaGreatMtE
import Derived.Test.YtackmgmaippajaaGreatMtQ
namespace Go.Proofs.YtackmgmaippajaaGreat
open Go Go.RowKit

/-! ### a writer beside things that are read: more -/
theorem WrBy.alloc {w0 w1 w : World} {p : Nat} {bs : List UInt8} {S : Nat → Prop} (h : WrBy w0 w1 w p bs S) (o : Obj) : WrBy w0 (w.alloc o) (w.alloc o) p bs (fun k => S k ∨ k = w.heap.size) := by
  obtain ⟨F, h1, h2, h3, h4, h5⟩ := h
  have hb := (Below.refl w.heap.size w).alloc (Nat.le_refl _) o
  refine ⟨F, h1.keep (Chg.of_below hb (fun _ => False)) (fun _ _ h => h), fun k hk => ⟨(h2 k hk).1, fun hs => ?_⟩, h3.trans (hb.mono h3.size), Chg.refl _ _, fun k hk => ?_⟩
  · rcases hs with hs | hs
    · exact (h2 k hk).2 hs
    · have := h1.lt k hk; omega
  · rw [size_alloc]
    rcases hk with hk | hk
    · have := h5 k hk; have := h4.size; omega
    · omega
theorem WrBy.back {w0 w1 w w2 w' : World} {p : Nat} {bs bs' : List UInt8} {S S' : Nat → Prop} (h : WrBy w0 w1 w p bs S) (hb : Below w.heap.size w w2) (h' : WrBy w0 w2 w' p bs' S') (hs : ∀ k, S k → S' k) : WrBy w0 w1 w' p bs' S := by
  obtain ⟨F, h1, h2, h3, h4, h5⟩ := h
  obtain ⟨F', g1, g2, g3, g4, g5⟩ := h'
  exact ⟨F', g1, fun k hk => ⟨(g2 k hk).1, fun h => (g2 k hk).2 (hs k h)⟩, g3, (h4.trans (Chg.of_below hb (fun k => ¬ S k)) (fun _ _ h => h)).trans g4 (fun i _ hi h => hi (hs i h)), h5⟩
theorem u16_by {w0 w1 w : World} {p : Nat} {bs : List UInt8} {S : Nat → Prop} (h : WrBy w0 w1 w p bs S) (N : Int) (n : Nat) (hN : N = (n : Int)) (hn : n < 65536) (hb : bs.length ≤ 70368744177664) :
    Calls Tryz.prog 92 #[.pointer (some ⟨p, 0, none⟩), .int .u16 N] w fun e w' => e = .returned (.tuple #[]) ∧ WrBy w0 w1 w' p (bs ++ be 2 n) S := by
  subst hN
  obtain ⟨F, h1, h2, h3, h4, h5⟩ := h
  exact (u16_any p bs F n w h1 hn hb).mono fun e w' he => ⟨he.1, WrBy.now h2 h3 h4 h5 he.2⟩
theorem bytes_by2 {w0 w1 w : World} {p : Nat} {bs : List UInt8} {S : Nat → Prop} (h : WrBy w0 w1 w p bs S) (bo : Option Addr) (n c : Nat) (ys : List UInt8) (hl : ys.length = n) (hy : Bts w1 bo ys) (hS : ys ≠ [] → ∀ a, bo = some a → S a.block) (hn : n ≤ 4294967295) (hb : bs.length ≤ 4398046511104) :
    Calls Tryz.prog 89 #[.pointer (some ⟨p, 0, none⟩), .slice bo n c] w fun e w' => e = .returned (.tuple #[]) ∧ WrBy w0 w1 w' p (bs ++ (be 4 n ++ ys)) S := by
  by_cases hz : ys = []
  · subst hz
    obtain ⟨F, h1, h2, h3, h4, h5⟩ := h
    exact (wbytes_any p bs F bo n c [] w h1 hl (Bts.nil _ _) (fun h => absurd rfl h) hn hb).mono fun e w' he => ⟨he.1, WrBy.now h2 h3 h4 h5 (by rw [← List.append_assoc]; exact he.2)⟩
  · exact bytes_by h bo n c ys hl hy (hS hz) hn hb
/-- What a book has, in a list of one's own. -/
theorem all_own (p last : Nat) (l : List Ls.Sess) (F : List Nat) (w : World) (h : Ls.BookAt w p last l F) (hl : l.length ≤ 1000000) :
    Calls Tryz.prog 78 #[.pointer (some ⟨p, 0, none⟩)] w fun e w' => ∃ xo xc, e = .returned (.tuple #[.int .u64 (last : Int), .slice xo l.length xc]) ∧ Below w.heap.size w w' ∧ Own w' 3 xo l.length xc (l.flatMap Ls.Sess.cells) ∧ ∀ a, xo = some a → w.heap.size ≤ a.block := by
  obtain ⟨lo, n, cap, h1, h2, h3, hF⟩ := h
  have hn := fl_own_len Ls.el_e h2
  subst hn
  obtain ⟨z0, z1, z2⟩ := cells2 h1
  have d0 : w.drew.cell? ⟨p, 0, none⟩ = some (.int .u64 (last : Int)) := z0
  have d1 : w.drew.cell? ⟨p, 1, none⟩ = some (.slice lo l.length cap) := z1
  have HCL := Lib.hid (Ls.clone_row lo l.length cap l w.drew h2.drew.row rfl (by omega))
  have HX := Lib.hid h1
  clear h1 h2 h3 hF
  generalize l.length = n at *
  go_enter Tryz.func78, Tryz.ntmps78
  go_wp2
  go_region_with (go_at_call 105; (with_reducible refine HCL.out.mono ?_); rintro e1 w1 ⟨xo, xc, rfl, hb, ho, hx⟩; obtain ⟨y0, y1, y2⟩ := cells2 ((Chg.of_below hb (fun _ => False)).heap (w := w.drew) HX.out (fun h => h)); have H1 := Lib.hid (And.intro hb (And.intro ho hx)); clear hb ho hx)
  all_goals go_wp2
  all_goals (
    go_ret2
    exact ⟨xo, xc, rfl, (Below.refl _ w).drew.trans H1.out.1, H1.out.2⟩)
/-! ### lengths -/
theorem flat_le {α β : Type} {f : α → List β} {m : Nat} : ∀ {l : List α}, (∀ x ∈ l, (f x).length ≤ m) → (l.flatMap f).length ≤ l.length * m
  | [], _ => by simp
  | x :: l, h => by
    have h1 := h x (by simp)
    have h2 := flat_le (l := l) (fun y hy => h y (by simp [hy]))
    rw [List.flatMap_cons, List.length_append, List.length_cons, Nat.succ_mul]
    omega
theorem sessB_len (x : Ls.Sess) : (sessB x).length = 24 := by simp [sessB, be_length]
theorem nodeB_len (x : Tr.Pl) : (nodeB x).length = 4 + x.key.size + (4 + x.body.length) + 16 := by
  have hk : x.key.data.toList.length = x.key.size := Array.length_toList ..
  simp only [nodeB, List.length_append, be_length, hk]
theorem nodes_le {s : St} (hs : s.Ok) (k : Nat) : ((s.ps.take k).flatMap nodeB).length ≤ 2000000 := by
  have h1 : ((s.ps.take k).flatMap nodeB).length ≤ (s.ps.take k).length * 3928 := flat_le fun x hx => by
    have hx := List.mem_of_mem_take hx
    rw [nodeB_len]
    have := (hs.key x hx).2
    have := hs.fine.body x hx
    omega
  have h2 : (s.ps.take k).length ≤ 256 := Nat.le_trans (List.length_take_le' ..) hs.fine.len
  have := Nat.mul_le_mul_right 3928 h2
  omega
theorem sess_le {l : List Ls.Sess} (k : Nat) (h : l.length ≤ 16) : ((l.take k).flatMap sessB).length ≤ 1000 := by
  have h1 : ((l.take k).flatMap sessB).length ≤ (l.take k).length * 24 := flat_le fun x _ => Nat.le_of_eq (sessB_len x)
  have h2 : (l.take k).length ≤ 16 := Nat.le_trans (List.length_take_le' ..) h
  omega
theorem recS_le {s : St} (hs : s.Ok) : (recS s).length ≤ 2002000 := by
  have h1 := nodes_le hs s.ps.length
  have h2 := sess_le s.l.length hs.len
  rw [List.take_length] at h1 h2
  simp only [recS, List.length_append, be_length]
  omega
theorem sess_take {l : List Ls.Sess} {k : Nat} {e : Ls.Sess} (he : l[k]? = some e) (b : List UInt8) : b ++ (l.take (k + 1)).flatMap sessB = b ++ (l.take k).flatMap sessB ++ be 8 e.id ++ be 8 e.ends ++ be 8 e.life := by
  rw [List.take_add_one, he]
  simp [sessB]
theorem node_take {l : List Nd} {k : Nat} {e : Nd} (he : l[k]? = some e) (b : List UInt8) : b ++ ((l.take (k + 1)).map Nd.pl).flatMap nodeB = b ++ ((l.take k).map Nd.pl).flatMap nodeB ++ (be 4 e.key.size ++ e.key.data.toList) ++ (be 4 e.body.length ++ e.body) ++ be 8 e.ver ++ be 8 e.own := by
  rw [List.take_add_one, he]
  simp [nodeB, Nd.pl]
/-- What lies under a list of nodes. -/
def UnderN (xo : Option Addr) (es : List Nd) (i : Nat) : Prop := (es ≠ [] ∧ ∃ a, xo = some a ∧ i = a.block) ∨ ∃ e ∈ es, e.body ≠ [] ∧ ∃ a, e.vo = some a ∧ i = a.block
theorem UnderN.lt {w : World} {xo : Option Addr} {es : List Nd} (h : Tr.NodesAt w xo es) {i : Nat} (hi : UnderN xo es i) : i < w.heap.size := by
  rcases hi with ⟨h0, a, rfl, rfl⟩ | ⟨e, he, h0, a, ha, rfl⟩
  · cases es with
    | nil => exact absurd rfl h0
    | cons e es =>
      obtain ⟨b, off, hb, h1, _⟩ := Tr.nd_at h.1 (show (e :: es)[0]? = some e from rfl)
      cases hb
      exact World.block_lt_of_cell? w _ h1
  · exact bts_lt (h.2 e he) h0 a ha
theorem UnderN.new {N : Nat} {xo : Option Addr} {es : List Nd} (h1 : ∀ a, xo = some a → N ≤ a.block) (h2 : ∀ e ∈ es, ∀ a, e.vo = some a → N ≤ a.block) {i : Nat} (hi : UnderN xo es i) : N ≤ i := by
  rcases hi with ⟨_, a, ha, rfl⟩ | ⟨e, he, _, a, ha, rfl⟩
  · exact h1 a ha
  · exact h2 e he a ha
theorem UnderN.keep {w w' : World} {xo : Option Addr} {es : List Nd} (h : Tr.NodesAt w xo es) (hc : Chg (fun k => ¬ UnderN xo es k) w w') : Tr.NodesAt w' xo es := by
  refine ⟨?_, fun e he => ?_⟩
  · by_cases h0 : es = []
    · subst h0; exact fun h => absurd rfl h
    · exact hc.row h.1 (fun a ha hn => hn (.inl ⟨h0, a, ha, rfl⟩))
  · by_cases h0 : e.body = []
    · rw [h0]; exact Bts.nil _ _
    · exact hc.row (h.2 e he) (fun a ha hn => hn (.inr ⟨e, he, h0, a, ha, rfl⟩))
-- BEGIN1
set_option maxHeartbeats 4000000 in
set_option maxRecDepth 100000 in
theorem rec_snapI (s : St) (KI : Int) (key : ByteArray) (vo : Option Addr) (vl vc : Nat) (want sess ticks : Int) (kp bp : Nat) (F1 F2 : List Nat) (w : World) (hKI : KI = 7) (hs : s.Ok) (ht : Tr.TreeAt w kp s.ps F1) (hb : Ls.BookAt w bp s.last s.l F2) :
    Calls Tryz.prog 50 #[.agg #[.int .u64 (s.now : Int), .pointer (some ⟨kp, 0, none⟩), .pointer (some ⟨bp, 0, none⟩)], .agg #[.int .u8 KI, .string key, .slice vo vl vc, .int .u64 want, .int .u64 sess, .int .u64 ticks]] w fun e w' => ∃ bo cap, e = .returned (.slice bo (recS s).length cap) ∧ Below w.heap.size w w' ∧ Own w' 1 bo (recS s).length cap ((recS s).map cb) ∧ ∀ a, bo = some a → w.heap.size ≤ a.block := by
  have HRL := Lib.hid (recS_le hs)
  have HOK := Lib.hid hs
  have hki : (KI == 7) = true := by simp [hKI]
  have hki2 : (KI != 7) = false := by simp [hKI]
  have HKI := Lib.hid hKI
  have HTR := Lib.hid (And.intro ht hb)
  clear hKI hs ht hb
  go_enter Tryz.func50, Tryz.ntmps50
  go_upto_region 2 with fail
  have HB := Lib.hid (((Below.refl w.heap.size w).alloc (Nat.le_refl _) (.cells #[.int .u64 (s.now : Int), .pointer (some ⟨kp, 0, none⟩), .pointer (some ⟨bp, 0, none⟩)] 109)).alloc (by rw [size_alloc]; omega) (.cells #[.int .u8 KI, .string key, .slice vo vl vc, .int .u64 want, .int .u64 sess, .int .u64 ticks] 39))
  have hT := heap_top (w.alloc (.cells #[.int .u64 (s.now : Int), .pointer (some ⟨kp, 0, none⟩), .pointer (some ⟨bp, 0, none⟩)] 109)) (.cells #[.int .u8 KI, .string key, .slice vo vl vc, .int .u64 want, .int .u64 sess, .int .u64 ticks] 39)
  have hSB := (Chg.of_below ((Below.refl (w.alloc (.cells #[.int .u64 (s.now : Int), .pointer (some ⟨kp, 0, none⟩), .pointer (some ⟨bp, 0, none⟩)] 109)).heap.size (w.alloc (.cells #[.int .u64 (s.now : Int), .pointer (some ⟨kp, 0, none⟩), .pointer (some ⟨bp, 0, none⟩)] 109))).alloc (Nat.le_refl _) (.cells #[.int .u8 KI, .string key, .slice vo vl vc, .int .u64 want, .int .u64 sess, .int .u64 ticks] 39)) (fun _ => False)).heap (heap_top w (.cells #[.int .u64 (s.now : Int), .pointer (some ⟨kp, 0, none⟩), .pointer (some ⟨bp, 0, none⟩)] 109)) (fun h => h)
  rw [size_alloc] at hT
  have hP : ((w.alloc (.cells #[.int .u64 (s.now : Int), .pointer (some ⟨kp, 0, none⟩), .pointer (some ⟨bp, 0, none⟩)] 109)).alloc (.cells #[.int .u8 KI, .string key, .slice vo vl vc, .int .u64 want, .int .u64 sess, .int .u64 ticks] 39)).heap.size = w.heap.size + 1 + 1 := by rw [size_alloc, size_alloc]
  generalize (w.alloc (.cells #[.int .u64 (s.now : Int), .pointer (some ⟨kp, 0, none⟩), .pointer (some ⟨bp, 0, none⟩)] 109)).alloc (.cells #[.int .u8 KI, .string key, .slice vo vl vc, .int .u64 want, .int .u64 sess, .int .u64 ticks] 39) = wb at *
  have hm := WrMine.new (Below.refl wb.heap.size wb)
  rw [hP] at hm
  have HT := Lib.hid (And.intro hT hSB)
  obtain ⟨a0, -, -, -, -, -⟩ := cells6 hT hm.below
  have H0 := Lib.hid hm
  have HS := Lib.hid hP
  clear hm hT hP hSB
  have hSBlt : w.heap.size < w.heap.size + 1 + 1 := by omega
  generalize hPP : w.heap.size + 1 + 1 = P at *
  generalize w.heap.size + 1 = T at *
  clear hPP hSBlt
  generalize wb.alloc (.cells #[.slice none 0 0] 161) = w0 at *
  go_upto_region 3 with (go_at_call 88; (with_reducible refine (u8_mine H0.out _ 7 HKI.out (by decide) (by simp)).mono ?_); rintro e w1 ⟨rfl, hm⟩; obtain ⟨b0, -, -, -, -, -⟩ := cells6 HT.out.1 hm.below; obtain ⟨s0, s1, s2⟩ := cells3b HT.out.2 hm.below; have H1 := Lib.hid hm; clear hm)
  go_upto_region 13 with (go_at_call 78; (with_reducible refine (all_own bp s.last s.l F2 w1 (HTR.out.2.keep (Chg.of_below (HB.out.trans (H1.out.below.mono HB.out.size)) (fun _ => False)) (fun _ _ h => h)) (by have := HOK.out.len; omega)).mono ?_); rintro e w2 ⟨xo, xc, rfl, hb2, ho2, hx2⟩; have H2 := Lib.hid (And.intro (WrMine.by' (S := fun i => ∃ a, xo = some a ∧ i = a.block) H1.out hb2 (fun i ⟨a, ha, hi⟩ => ⟨hi ▸ hx2 a ha, hi ▸ (ho2.at_ a ha).2.1⟩)) ho2); obtain ⟨t0, t1, t2⟩ := cells3b HT.out.2 H2.out.1.mine.below; clear hb2 ho2 hx2)
  have hl16 := HOK.out.len
  have hnow := HOK.out.now
  have hlast := HOK.out.last
  have e1 : IntKind.u16.wrap ((s.l.length : Nat) : Int) = ((s.l.length : Nat) : Int) := by rw [IntKind.wrap_u16]; omega
  go_upto_region 16 with (first
    | (go_at_call 90; (with_reducible refine (u64_by H2.out.1 _ s.now rfl (by omega) (by simp [be_length])).mono ?_); rintro e w3 ⟨rfl, hm⟩; have H3 := Lib.hid hm; clear hm)
    | (go_at_call 90; (with_reducible refine (u64_by H3.out _ s.last rfl hlast (by simp [be_length])).mono ?_); rintro e w4 ⟨rfl, hm⟩; have H4 := Lib.hid hm; clear hm)
    | (go_at_call 92; (with_reducible refine (u16_by H4.out _ s.l.length rfl (by omega) (by simp [be_length])).mono ?_); rintro e w5 ⟨rfl, hm⟩; have H5 := Lib.hid hm; clear hm))
  go_wp2
  obtain ⟨base, hbase⟩ : ∃ base, [] ++ be 1 7 ++ be 8 s.now ++ be 8 s.last ++ be 2 s.l.length = base := ⟨_, rfl⟩
  have HBL := Lib.hid (show base.length ≤ 100 by rw [← hbase]; simp [be_length])
  have HBB := Lib.hid hbase
  rw [hbase] at H5
  clear hbase t0 t1 t2 s0 s1 s2 a0 b0
  have HO2 := Lib.hid H2.out.2
  go_loopg [71] s.l.length (fun g i wr => ∃ k : Nat, g + k = s.l.length ∧ i = .int .i64 k ∧ WrBy wb w2 wr P (base ++ (s.l.take k).flatMap sessB) (fun i => ∃ a, xo = some a ∧ i = a.block))
  case atStart => exact ⟨0, by omega, rfl, by simpa using H5.out⟩
  case round =>
    obtain ⟨k, hgk, rfl, hrel⟩ := hrel
    have HR := Lib.hid hrel
    clear hrel
    have hbl := HBL.out
    have hlk := sess_le k hl16
    by_cases hk : k < s.l.length
    · have hki : (k : Int) < (s.l.length : Int) := by omega
      have hk0 : (0 : Int) ≤ (k : Int) := by omega
      obtain ⟨e, he⟩ : ∃ e, s.l[k]? = some e := ⟨_, List.getElem?_eq_getElem hk⟩
      obtain ⟨b, off, rfl, c0, c1, c2⟩ := Ls.row_at (HR.out.chg.row HO2.out.row (fun a ha h => h ⟨a, ha, rfl⟩)) he
      have hem := List.mem_of_getElem? he
      have he1 : e.id < 18446744073709551616 := by obtain ⟨_, h2, _⟩ := HOK.out.good k e he; omega
      have he2 := HOK.out.ends e hem
      have he3 : e.life < 18446744073709551616 := by obtain ⟨_, _, _, h4, _⟩ := HOK.out.good k e he; omega
      have HE := Lib.hid (And.intro he hem)
      have hA := HR.out.alloc (.cells #[.int .u64 (e.id : Int), .int .u64 (e.ends : Int), .int .u64 (e.life : Int)] 96)
      have hN := heap_top wr (.cells #[.int .u64 (e.id : Int), .int .u64 (e.ends : Int), .int .u64 (e.life : Int)] 96)
      have HBk := Lib.hid ((Below.refl wr.heap.size wr).alloc (Nat.le_refl _) (.cells #[.int .u64 (e.id : Int), .int .u64 (e.ends : Int), .int .u64 (e.life : Int)] 96))
      obtain ⟨d0, d1, d2⟩ := cells3b hN (Below.refl _ _)
      have HA := Lib.hid hA
      have HN := Lib.hid hN
      clear hA hN he hem
      have hbb : (base ++ (List.take k s.l).flatMap sessB).length ≤ 1100 := by rw [List.length_append]; omega
      go_wp2_with (first
        | (go_at_call 90; (with_reducible refine (u64_by HA.out _ e.id rfl he1 (by omega)).mono ?_); rintro e0 w6 ⟨rfl, hm⟩; obtain ⟨f0, f1, f2⟩ := cells3b (hm.chg.heap HN.out (fun h => h (Or.inr rfl))) (Below.refl _ _); have H6 := Lib.hid hm; clear hm)
        | (go_at_call 90; (with_reducible refine (u64_by H6.out _ e.ends rfl he2 (by rw [List.length_append, be_length]; omega)).mono ?_); rintro e0 w7 ⟨rfl, hm⟩; obtain ⟨g0, g1, g2⟩ := cells3b (hm.chg.heap HN.out (fun h => h (Or.inr rfl))) (Below.refl _ _); have H7 := Lib.hid hm; clear hm)
        | (go_at_call 90; (with_reducible refine (u64_by H7.out _ e.life rfl he3 (by rw [List.length_append, List.length_append, be_length, be_length]; omega)).mono ?_); rintro e0 w8 ⟨rfl, hm⟩; have H8 := Lib.hid hm; clear hm))
      have hfin := WrBy.back HR.out HBk.out H8.out (fun k h => Or.inl h)
      rw [← sess_take HE.out.1] at hfin
      have HF := Lib.hid hfin
      clear hfin
      go_roundg (gk - 1)
      case measure => omega
      case rel => exact ⟨k + 1, by omega, by go_num, HF.out⟩
    · obtain rfl : k = s.l.length := by omega
      have hmine := HR.out.mine
      rw [List.take_length] at hmine
      rw [List.take_length] at hlk
      obtain ⟨base2, hbase2⟩ : ∃ b, base ++ s.l.flatMap sessB = b := ⟨_, rfl⟩
      have HBL2 := Lib.hid (show base2.length ≤ 1100 by rw [← hbase2, List.length_append]; omega)
      have HBB2 := Lib.hid hbase2
      rw [hbase2] at hmine
      have HM := Lib.hid hmine
      have hTr := HTR.out.1.keep (Chg.of_below (HB.out.trans (hmine.below.mono HB.out.size)) (fun _ => False)) (fun _ _ h => h)
      have hHTR := Lib.hid hTr
      obtain ⟨t0, t1, t2⟩ := cells3b HT.out.2 hmine.below
      clear hmine hbase2 hTr hlk
      go_upto_region 24 with (go_at_call 45; (with_reducible refine (Tr.list_new kp s.ps F1 wr hHTR.out HOK.out.fine).mono ?_); rintro e w9 ⟨xo2, xc2, es, rfl, hb9, hn9, hm9, hx9, hv9⟩; have H9 := Lib.hid (And.intro (WrMine.by' (S := UnderN xo2 es) HM.out hb9 (fun i hi => ⟨hi.new hx9 hv9, hi.lt hn9⟩)) (And.intro hn9 hm9)); clear hb9 hn9 hm9 hx9 hv9)
      have hp256 := HOK.out.fine.len
      have e2 : IntKind.u16.wrap ((s.ps.length : Nat) : Int) = ((s.ps.length : Nat) : Int) := by rw [IntKind.wrap_u16]; omega
      have hbl2 := HBL2.out
      go_upto_region 25 with (go_at_call 92; (with_reducible refine (u16_by H9.out.1 _ s.ps.length rfl (by omega) (by omega)).mono ?_); rintro e w10 ⟨rfl, hm⟩; have H10 := Lib.hid hm; clear hm)
      go_wp2
      have hel : es.length = s.ps.length := by have := congrArg List.length H9.out.2.2; simpa using this
      obtain ⟨base3, hbase3⟩ : ∃ b, base2 ++ be 2 s.ps.length = b := ⟨_, rfl⟩
      have HBL3 := Lib.hid (show base3.length ≤ 1200 by rw [← hbase3, List.length_append, be_length]; omega)
      have HBB3 := Lib.hid hbase3
      rw [hbase3] at H10
      have HEL := Lib.hid hel
      clear hbase3 t0 t1 t2
      go_loopg [98] s.ps.length (fun g i wr => ∃ k : Nat, g + k = s.ps.length ∧ i = .int .i64 k ∧ WrBy wb w9 wr P (base3 ++ ((es.take k).map Nd.pl).flatMap nodeB) (UnderN xo2 es))
      case atStart => exact ⟨0, by omega, rfl, by simpa using H10.out⟩
      case round =>
        obtain ⟨k, hgk, rfl, hrel⟩ := hrel
        have HR2 := Lib.hid hrel
        clear hrel
        have hbl3 := HBL3.out
        have hlk : (((es.take k).map Nd.pl).flatMap nodeB).length ≤ 2000000 := by rw [List.map_take, H9.out.2.2]; exact nodes_le HOK.out k
        by_cases hk : k < s.ps.length
        · have hki : (k : Int) < (s.ps.length : Int) := by omega
          have hk0 : (0 : Int) ≤ (k : Int) := by omega
          obtain ⟨e, he⟩ : ∃ e, es[k]? = some e := ⟨_, List.getElem?_eq_getElem (by rw [HEL.out]; exact hk)⟩
          have hN9 := UnderN.keep H9.out.2.1 HR2.out.chg
          obtain ⟨b, off, rfl, c0, c1, c2, c3⟩ := Tr.nd_at hN9.1 he
          have hem := List.mem_of_getElem? he
          have hpm : e.pl ∈ s.ps := by rw [← H9.out.2.2]; exact List.mem_map.2 ⟨e, hem, rfl⟩
          have q1 : e.key.size ≤ 64 := (HOK.out.key e.pl hpm).2
          have q2 : e.body.length ≤ 3840 := HOK.out.fine.body e.pl hpm
          have q3 : e.ver < 18446744073709551616 := HOK.out.fine.ver e.pl hpm
          have q4 : e.own < 18446744073709551616 := HOK.out.fine.own e.pl hpm
          have hbody : Bts (wr.alloc (.cells #[.string e.key, .slice e.vo e.body.length e.vc, .int .u64 (e.ver : Int), .int .u64 (e.own : Int)] 78)) e.vo e.body := (hN9.2 e hem).below ((Below.refl wr.heap.size wr).alloc (Nat.le_refl _) _)
          have hundb : e.body ≠ [] → ∀ a, e.vo = some a → (UnderN (some ⟨b, off, none⟩) es a.block ∨ a.block = wr.heap.size) := fun h0 a ha => .inl (.inr ⟨e, hem, h0, a, ha, rfl⟩)
          have HE := Lib.hid (And.intro he (And.intro hbody hundb))
          have hA := HR2.out.alloc (.cells #[.string e.key, .slice e.vo e.body.length e.vc, .int .u64 (e.ver : Int), .int .u64 (e.own : Int)] 78)
          have hN := heap_top wr (.cells #[.string e.key, .slice e.vo e.body.length e.vc, .int .u64 (e.ver : Int), .int .u64 (e.own : Int)] 78)
          have HBk := Lib.hid ((Below.refl wr.heap.size wr).alloc (Nat.le_refl _) (.cells #[.string e.key, .slice e.vo e.body.length e.vc, .int .u64 (e.ver : Int), .int .u64 (e.own : Int)] 78))
          have kt := run_bytes_of_string (P := Tryz.prog) (wr.alloc (.cells #[.string e.key, .slice e.vo e.body.length e.vc, .int .u64 (e.ver : Int), .int .u64 (e.own : Int)] 78)) 9 25 5 e.key Tryz.underlying9 Tryz.underlying25 Tryz.underlying5
          obtain ⟨d0, d1, d2, d3, -⟩ := cells4 hN
          have HA := Lib.hid hA
          have HN := Lib.hid hN
          have hbb : (base3 ++ ((es.take k).map Nd.pl).flatMap nodeB).length ≤ 2001200 := by rw [List.length_append]; omega
          have hks : e.key.data.toList.length = e.key.size := Array.length_toList ..
          clear hA hN he hem hpm hbody hundb hN9
          go_upto_region 28 with fail
          generalize wr.alloc (.cells #[.string e.key, .slice e.vo e.body.length e.vc, .int .u64 (e.ver : Int), .int .u64 (e.own : Int)] 78) = wa at *
          go_wp2_with (first
            | (go_at_call 89; (with_reducible refine (strb_by HA.out e.key _ _ _ (by omega) (by simp only [List.length_append]; omega)).mono ?_); rintro e0 w11 ⟨rfl, hm⟩; obtain ⟨f0, f1, f2, f3, -⟩ := cells4 (hm.chg.heap HN.out (fun h => h (Or.inr rfl))); have H11 := Lib.hid hm; clear hm)
            | (go_at_call 89; (with_reducible refine (bytes_by2 H11.out e.vo _ _ e.body rfl HE.out.2.1 HE.out.2.2 (by omega) (by simp only [List.length_append, be_length]; omega)).mono ?_); rintro e0 w12 ⟨rfl, hm⟩; obtain ⟨g0, g1, g2, g3, -⟩ := cells4 (hm.chg.heap HN.out (fun h => h (Or.inr rfl))); have H12 := Lib.hid hm; clear hm)
            | (go_at_call 90; (with_reducible refine (u64_by H12.out _ e.ver rfl q3 (by simp only [List.length_append, be_length]; omega)).mono ?_); rintro e0 w13 ⟨rfl, hm⟩; obtain ⟨i0, i1, i2, i3, -⟩ := cells4 (hm.chg.heap HN.out (fun h => h (Or.inr rfl))); have H13 := Lib.hid hm; clear hm)
            | (go_at_call 90; (with_reducible refine (u64_by H13.out _ e.own rfl q4 (by simp only [List.length_append, be_length]; omega)).mono ?_); rintro e0 w14 ⟨rfl, hm⟩; have H14 := Lib.hid hm; clear hm))
          have hfin := WrBy.back HR2.out HBk.out H14.out (fun k h => Or.inl h)
          rw [← node_take HE.out.1] at hfin
          have HF := Lib.hid hfin
          clear hfin
          go_roundg (gk - 1)
          case measure => omega
          case rel => exact ⟨k + 1, by omega, by go_num, HF.out⟩
        · obtain rfl : k = s.ps.length := by omega
          have hmine := HR2.out.mine
          have e : base3 ++ ((es.take s.ps.length).map Nd.pl).flatMap nodeB = recS s := by
            rw [← HEL.out, List.take_length, H9.out.2.2, ← HBB3.out, ← HBB2.out, ← HBB.out]; simp [recS]
          rw [e] at hmine
          have hdl : (recS s).length ≤ 70368744177664 := Nat.le_trans HRL.out (by decide)
          obtain ⟨R, hR⟩ : ∃ R, recS s = R := ⟨_, rfl⟩
          rw [hR] at hmine hdl
          have HD := Lib.hid hmine
          have HRR := Lib.hid hR
          clear hmine e hR
          go_wp2_with (go_at_call 91; (with_reducible refine (done_mine HD.out hdl).mono ?_); rintro e w15 ⟨bo, cap, rfl, hm, ho, hx⟩; have H15 := Lib.hid (And.intro hm (And.intro ho hx)); clear hm ho hx)
          go_ret
          rw [HRR.out]
          exact ⟨bo, cap, rfl, HB.out.trans (H15.out.1.below.mono HB.out.size), H15.out.2.1, fun a ha => Nat.le_trans HB.out.size (Nat.le_trans HD.out.below.size (H15.out.2.2 a ha))⟩
-- END1
theorem rec_snap (s : St) (c : Cm) (kp bp : Nat) (F1 F2 : List Nat) (vo : Option Addr) (vc : Nat) (w : World) (hk : c.kind = 7) (hs : s.Ok) (ht : Tr.TreeAt w kp s.ps F1) (hb : Ls.BookAt w bp s.last s.l F2) :
    Calls Tryz.prog 50 #[stVal s kp bp, .agg (c.cells vo vc)] w fun e w' => ∃ bo cap, e = .returned (.slice bo (recS s).length cap) ∧ Below w.heap.size w w' ∧ Own w' 1 bo (recS s).length cap ((recS s).map cb) ∧ ∀ a, bo = some a → w.heap.size ≤ a.block :=
  rec_snapI s _ c.key vo c.val.length vc _ _ _ kp bp F1 F2 w (by rw [hk]; rfl) hs ht hb
theorem RecOk.snap {s : St} {c : Cm} (hs : s.Ok) (hk : c.kind = 7) : RecOk s c := by
  intro kp bp F1 F2 vo vc w ht hb _
  unfold rec
  rw [if_pos hk]
  exact rec_snap s c kp bp F1 F2 vo vc w hk hs ht hb
theorem RecOk.any {s : St} {c : Cm} (hs : s.Ok) (hc : c.Fit) : RecOk s c := by
  by_cases hk : c.kind = 7
  · exact .snap hs hk
  · exact .cmd hc hk
end Go.Proofs.YtackmgmaippajaaGreat
