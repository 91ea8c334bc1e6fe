/-
  THE LAW TreePlays OF LAYER 6, WALKED.
-/
import Derived.Test.YtebhbfjnobcckaaTreeY
import Derived.Test.YtebhbfjnobcckaaTreeDel
import Derived.Deep.RegionHeld3
import Derived.Deep.CutBlock
namespace Go.Proofs.Ytebhbfjnobcckaa
open Go Go.RowKit

section
variable {w0 w w' : World} {p q T : Nat} {ps ps' rs rs' : List Pl} {F F' G : List Nat} {o : Obj}
theorem PairBox.keep (h : PairBox w0 w p q ps rs F G T o) {S : Nat → Prop} (hc : Chg S w w') (hF : ∀ k ∈ F, ¬ S k) (hG : ∀ k ∈ G, ¬ S k) (hT : ¬ S T) (hS : ∀ k, S k → w0.heap.size ≤ k) : PairBox w0 w' p q ps rs F G T o :=
  ⟨⟨h.a.keep hc hF hS, h.b.keep hc hG, h.new, h.apart⟩, hc.heap h.act hT, h.tf, h.tg⟩
theorem PairBox.stepA' (h : PairBox w0 w p q ps rs F G T o) (hw : Wrote w w' p ps' F) (hf : Fine ps') : ∃ F', PairBox w0 w' p q ps' rs F' G T o ∧ Chg (· ∈ F) w w' ∧ ∀ k ∈ F', k ∈ F ∨ w.heap.size ≤ k := by
  obtain ⟨F', h1, h2, h3⟩ := h.toPair.stepA hw hf
  refine ⟨F', ⟨h1, h2.heap h.act h.tf, fun hk => ?_, h.tg⟩, h2, h3⟩
  rcases h3 T hk with h4 | h4
  · exact h.tf h4
  · have := heap_lt h.act; omega
end
theorem pputA (w0 : World) (p q : Nat) (ps rs : List Pl) (F G : List Nat) (T : Nat) (o : Obj) (key : ByteArray) (vo : Option Addr) (m c : Nat) (val : List UInt8) (want own : Nat) (w : World) (h : PairBox w0 w p q ps rs F G T o) (hv : Bts w vo val) (hm : val.length = m) (hw : want < 18446744073709551616) (ho : own < 18446744073709551616) :
    Calls Try.prog 12 #[.pointer (some ⟨p, 0, none⟩), .string key, .slice vo m c, .int .u64 (want : Int), .int .u64 (own : Int)] w fun r w' => r = .returned (.tuple #[.int .u64 ((putP ps key val want own).2.1 : Int), .int .i64 (putP ps key val want own).2.2]) ∧ ∃ F', PairBox w0 w' p q (putP ps key val want own).1 rs F' G T o ∧ Chg (· ∈ F) w w' ∧ ∀ k ∈ F', k ∈ F ∨ w.heap.size ≤ k := by
  refine (put_all p ps F key vo m c val want own w h.a.tree h.a.fine hv hm hw).mono ?_
  rintro r w' ⟨rfl, hw⟩
  exact ⟨rfl, h.stepA' hw (h.a.fine.puts key val want own ho)⟩
theorem pputB (w0 : World) (p q : Nat) (ps rs : List Pl) (F G : List Nat) (T : Nat) (o : Obj) (key : ByteArray) (vo : Option Addr) (m c : Nat) (val : List UInt8) (want own : Nat) (w : World) (h : PairBox w0 w p q ps rs F G T o) (hl : rs.length ≤ 256) (hv : Bts w vo val) (hm : val.length = m) (hw : want < 18446744073709551616) :
    Calls Try.prog 18 #[.pointer (some ⟨q, 0, none⟩), .string key, .slice vo m c, .int .u64 (want : Int), .int .u64 (own : Int)] w fun r w' => r = .returned (.tuple #[.int .u64 ((putR rs key val want own).2.1 : Int), .int .i64 (putR rs key val want own).2.2]) ∧ ∃ G', PairBox w0 w' p q ps (putR rs key val want own).1 F G' T o := by
  refine (rput_all q rs G key vo m c val want own w h.b hl hv hm hw).mono ?_
  rintro r w' ⟨rfl, hw⟩
  exact ⟨rfl, h.stepB hw⟩
theorem pdelA (w0 : World) (p q : Nat) (ps rs : List Pl) (F G : List Nat) (T : Nat) (o : Obj) (key : ByteArray) (want : Nat) (w : World) (h : PairBox w0 w p q ps rs F G T o) :
    Calls Try.prog 23 #[.pointer (some ⟨p, 0, none⟩), .string key, .int .u64 (want : Int)] w fun r w' => r = .returned (.int .i64 (delP ps key want).2) ∧ ∃ F', PairBox w0 w' p q (delP ps key want).1 rs F' G T o := by
  refine (delete_all p ps F key want w h.a.tree h.a.fine).mono ?_
  rintro r w' ⟨rfl, hw⟩
  exact ⟨rfl, h.stepA hw (h.a.fine.dels key want)⟩
theorem pdelB (w0 : World) (p q : Nat) (ps rs : List Pl) (F G : List Nat) (T : Nat) (o : Obj) (key : ByteArray) (want : Nat) (w : World) (h : PairBox w0 w p q ps rs F G T o) (hl : rs.length ≤ 256) :
    Calls Try.prog 26 #[.pointer (some ⟨q, 0, none⟩), .string key, .int .u64 (want : Int)] w fun r w' => r = .returned (.int .i64 (delP rs key want).2) ∧ ∃ G', PairBox w0 w' p q ps (delP rs key want).1 F G' T o := by
  refine (rdel_all q rs G key want w h.b hl).mono ?_
  rintro r w' ⟨rfl, hw⟩
  exact ⟨rfl, h.stepB hw⟩
theorem pdropA (w0 : World) (p q : Nat) (ps rs : List Pl) (F G : List Nat) (T : Nat) (o : Obj) (own : Nat) (w : World) (h : PairBox w0 w p q ps rs F G T o) :
    Calls Try.prog 19 #[.pointer (some ⟨p, 0, none⟩), .int .u64 (own : Int)] w fun r w' => r = .returned (.tuple #[]) ∧ ∃ F', PairBox w0 w' p q (dropP ps own) rs F' G T o := by
  refine (drop_all p ps F own w h.a.tree h.a.fine).mono ?_
  rintro r w' ⟨rfl, hw⟩
  exact ⟨rfl, h.stepA hw (h.a.fine.drops own)⟩
theorem pdropB (w0 : World) (p q : Nat) (ps rs : List Pl) (F G : List Nat) (T : Nat) (o : Obj) (own : Nat) (w : World) (h : PairBox w0 w p q ps rs F G T o) (hl : rs.length ≤ 256) :
    Calls Try.prog 20 #[.pointer (some ⟨q, 0, none⟩), .int .u64 (own : Int)] w fun r w' => r = .returned (.tuple #[]) ∧ ∃ G', PairBox w0 w' p q ps (dropP rs own) F G' T o := by
  refine (rdrop_any q rs G own w h.b hl).mono ?_
  rintro r w' ⟨rfl, hw⟩
  exact ⟨rfl, h.stepB hw⟩
theorem acells05 {w : World} {T : Nat} {a b c d e : Value} {t : TypeId} (h : w.heap[T]? = some (.cells #[a, b, c, d, e] t (0, 0))) : w.cell? ⟨T, 0, none⟩ = some a ∧ w.cell? ⟨T, 1, none⟩ = some b ∧ w.cell? ⟨T, 2, none⟩ = some c ∧ w.cell? ⟨T, 3, none⟩ = some d ∧ w.cell? ⟨T, 4, none⟩ = some e := by
  have h0 := heap_cell h 0
  simp at h0
  exact ⟨h0, acells5 h⟩
set_option maxHeartbeats 8000000 in
set_option maxRecDepth 100000 in
theorem treePlays_any (po : Option Addr) (m d : Nat) (acts : List ActT) (w : World) (hpl : acts.length = m) (hp : RowOf w po 5 (ActIs w) acts) (hpm : m ≤ maxLen) :
    Calls Try.prog 9 #[.slice po m d] w fun e w' => e = .returned (.bool true) ∧ Below w.heap.size w w' := by
  have HH := Lib.hid (And.intro hpl hp)
  clear hpl hp
  unfold maxLen at hpm
  go_enter Try.func9, Try.ntmps9
  go_wp2_with fail
  (with_reducible refine (awake _).mono ?_)
  rintro e1 w1 ⟨rfl, hb1⟩
  have H1 := Lib.hid hb1
  clear hb1
  go_wp2_with fail
  (with_reducible refine (new_in w _ H1.out).mono ?_)
  rintro e2 w2 ⟨p, rfl, _, hn2⟩
  have H2 := Lib.hid (rnew_pair hn2)
  clear hn2
  go_wp2
  go_loopg [25] m (fun g v wr => ∃ (k : Nat) (ps rs : List Pl) (F G : List Nat), g + k = m ∧ v = .int .i64 k ∧ Pair w wr p w2.heap.size ps rs F G ∧ Like ps rs)
  case atStart => exact ⟨0, [], [], _, _, by omega, rfl, H2.out, List.Perm.refl _⟩
  case round =>
    generalize w2.heap.size = q at *
    clear H2 H1
    obtain ⟨k, ps, rs, F, G, hgk, rfl, hpair, hlike⟩ := hrel
    obtain ⟨K0, rfl⟩ : ∃ K0, K0 = gk := ⟨_, rfl⟩
    have HN := Lib.hid (And.intro hpair hlike)
    clear hpair hlike
    by_cases hk : k < m
    · obtain ⟨zb, zoff, t, rfl, hx1, hx2, hx3, hx4, hx5, hx6, hcs⟩ := act_of (k := k) HH.out.2 (by rw [HH.out.1]; exact hk)
      obtain ⟨c0, c1, c2, c3, c4⟩ := hcs _ HN.out.1.a.below
      clear hcs
      have HT := Lib.hid (And.intro (HN.out.1.box (.cells #[.int .u8 (t.kind.toNat : Int), .string t.key, .slice t.vo t.bs.length t.c, .int .u64 (t.want : Int), .int .u64 (t.own : Int)] 52)) hx2)
      obtain ⟨kd, key, vo, bs, bc, want, own⟩ := t
      dsimp only at *
      have hkd0 := heap_cell HT.out.1.act 0
      simp at hkd0
      obtain ⟨t1, t2, t3, t4⟩ := acells5 HT.out.1.act
      clear hx1 hx2 hx3 hx4
      by_cases h60 : 60 < k
      · have i1 : (60 : Int) < (k : Int) := by omega
        as_aux_lemma =>
          go_wp2
          go_ret
          exact ⟨rfl, HT.out.1.a.below⟩
      have i1 : ¬ (60 : Int) < (k : Int) := by omega
      by_cases h200 : 200 < key.size
      · have i2 : (200 : Int) < (key.size : Int) := by omega
        as_aux_lemma =>
          go_wp2
          go_ret
          exact ⟨rfl, HT.out.1.a.below⟩
      have i2 : ¬ (200 : Int) < (key.size : Int) := by omega
      by_cases h5 : 5000 < bs.length
      · have i3 : (5000 : Int) < (bs.length : Int) := by omega
        as_aux_lemma =>
          go_wp2
          go_ret
          exact ⟨rfl, HT.out.1.a.below⟩
      have i3 : ¬ (5000 : Int) < (bs.length : Int) := by omega
      go_wp2_with fail
      generalize wr.alloc (.cells #[.int .u8 (kd.toNat : Int), .string key, .slice vo bs.length bc, .int .u64 (want : Int), .int .u64 (own : Int)] 52) = wb0 at *
      generalize wr.heap.size = T at *
      (with_reducible refine (key_any key wb0).mono ?_)
      rintro e3 wb ⟨K, rfl, hb3⟩
      have HT0 := Lib.hid (HT.out.1.stays hb3)
      have HX := Lib.hid HT.out.2
      clear c0 c1 c2 c3 c4 t1 t2 t3 t4 hkd0 HT hb3
      obtain ⟨t0, t1, t2, t3, t4⟩ := acells05 HT0.out.act
      go_upto_block 2 with fail
      have hA2 := fun (W : World) (o : Obj) => (Below.refl W.heap.size W).alloc (Nat.le_refl _) o
      have HLP := Lib.hid (like_put HN.out.2 HN.out.1.a.fine.sorted K bs want own)
      have HXB := Lib.hid (HX.out.below HT0.out.a.below)
      go_cut [] (fun wx => ∃ (ps rs : List Pl) (F G : List Nat), PairBox w wx p q ps rs F G T (.cells #[.int .u8 (kd.toNat : Int), .string key, .slice vo bs.length bc, .int .u64 (want : Int), .int .u64 (own : Int)] 52 (0, 0)) ∧ Like ps rs)
      case first =>
        have hkd : (kd.toNat : Int) % 6 = 0 ∨ (kd.toNat : Int) % 6 = 1 ∨ (kd.toNat : Int) % 6 = 2 ∨ (kd.toNat : Int) % 6 = 3 ∨ (kd.toNat : Int) % 6 = 4 ∨ (kd.toNat : Int) % 6 = 5 := by omega
        generalize (kd.toNat : Int) % 6 = kx at *
        rcases hkd with rfl | rfl | rfl | rfl | rfl | rfl
        · -- BEGIN1
          as_aux_lemma =>
              have t2' := alloc_cell (o := .cells #[] 5) t2
              go_upto_region 14 with (at_builtin; refine wpList_append' rfl (.tmp 54) (.tmp 56) el_u8 rfl rfl rfl (Own.alloc0 _ 1 _ _) (show (bs.map cb).length = bs.length * 1 by rw [List.length_map, Nat.mul_one]) (HXB.out.below (hA2 _ _)) (one_cb bs) (by unfold maxLen; omega) (by omega) ?_; intro xo xc w3 hx hch _ hx2; simp only [Nat.zero_add, List.nil_append] at hx; have H3 := Lib.hid (And.intro (chg_new (Below.refl _ _) hch) (And.intro hx (new_blk (Below.refl _ _) hx2))); clear hx hch hx2)
              have HP3 := Lib.hid (HT0.out.stays H3.out.1)
              have HNB := Lib.hid (show ∀ a, xo = some a → a.block ∉ F ∧ a.block ∉ G ∧ ¬ a.block = T ∧ w.heap.size ≤ a.block ∧ a.block < w3.heap.size from fun a ha => by
                have h1 := H3.out.2.2 a ha
                refine ⟨fun hk => ?_, fun hk => ?_, fun e => ?_, Nat.le_trans HT0.out.a.below.size h1, (H3.out.2.1.at_ a ha).2.1⟩
                · have := HT0.out.a.tree.lt _ hk; omega
                · have := HT0.out.b.lt _ hk; omega
                · have := heap_lt HT0.out.act; omega)
              clear t0 t1 t2 t3 t4
              obtain ⟨t0, t1, t2, t3, t4⟩ := acells05 HP3.out.act
              go_wp2_with fail
              (with_reducible refine (pputA w p q ps rs F G T _ K xo bs.length xc bs want own w3 HP3.out (Own.bts H3.out.2.1) rfl hx5 hx6).mono ?_)
              rintro r w4 ⟨rfl, F4, h4, hc4, hg4⟩
              have ho4 := H3.out.2.1.keep hc4 (fun a ha => (HNB.out a ha).1)
              have H4 := Lib.hid (And.intro h4 (And.intro (show ∀ a, xo = some a → a.block ∉ F4 from fun a ha hk => by
                rcases hg4 _ hk with h1 | h1
                · exact (HNB.out a ha).1 h1
                · have := (HNB.out a ha).2.2.2.2; omega) ho4))
              clear h4 hc4 hg4 ho4 t0 t1 t2 t3 t4
              go_wp2
              go_loopg [71] bs.length (fun g v wx => ∃ (j : Nat) (cs : List Value), g + j = bs.length ∧ v = .int .i64 j ∧ Own wx 1 xo bs.length xc cs ∧ (∀ u ∈ cs, ∃ x : Int, u = .int .u8 x) ∧ PairBox w wx p q (putP ps K bs want own).1 rs F4 G T (.cells #[.int .u8 (kd.toNat : Int), .string key, .slice vo bs.length bc, .int .u64 (want : Int), .int .u64 (own : Int)] 52 (0, 0)))
              case atStart => exact ⟨0, bs.map cb, by omega, rfl, H4.out.2.2, fun u hu => by obtain ⟨x, _, rfl⟩ := List.mem_map.1 hu; exact ⟨_, rfl⟩, H4.out.1⟩
              case round =>
                obtain ⟨j, cs, hgj, rfl, hown, hcs, hpb⟩ := hrel
                have HI := Lib.hid (And.intro hown (And.intro hcs hpb))
                clear hown hcs hpb
                by_cases hj : j < bs.length
                · have hjI : (j : Int) < (bs.length : Int) := by omega
                  have hj0 : (0 : Int) ≤ (j : Int) := by omega
                  cases xo with
                  | none => have h1 := HI.out.1.nil rfl; have h2 := HI.out.1.le; omega
                  | some xa =>
                    obtain ⟨xb, xoff, xs⟩ := xa
                    obtain ⟨rfl, _, hfz, hcl⟩ := HI.out.1.at_ _ rfl
                    have hcl0 : cs.length = bs.length := by have := HI.out.1.len; omega
                    obtain ⟨u, hu⟩ : ∃ u, cs[j]? = some u := ⟨_, List.getElem?_eq_getElem (by omega)⟩
                    obtain ⟨x, rfl⟩ := HI.out.2.1 u (List.mem_of_getElem? hu)
                    have d0 := hcl j _ hu
                    have f0 := (hfz j (by have := HI.out.1.le; omega)).2
                    simp only at d0 f0
                    have HJ := Lib.hid (And.intro hcl0 hu)
                    clear hcl hfz hcl0 hu
                    go_wp2
                    go_roundg (gk - 1)
                    case measure => omega
                    case rel =>
                      refine ⟨j + 1, _, by omega, by go_num, HI.out.1.set j _ (by omega), fun u hu => ?_, HI.out.2.2.keep (Chg.one _ xb _ _) (fun k hk e => H4.out.2.1 _ rfl (e ▸ hk)) (fun k hk e => (HNB.out _ rfl).2.1 (e ▸ hk)) (fun e => (HNB.out _ rfl).2.2.1 e.symm) (fun k e => e ▸ (HNB.out _ rfl).2.2.2.1)⟩
                      rcases List.mem_or_eq_of_mem_set hu with hu | rfl
                      · exact HI.out.2.1 u hu
                      · exact ⟨_, rfl⟩
                · obtain ⟨t0, t1, t2, t3, t4⟩ := acells05 HI.out.2.2.act
                  have hrl : rs.length ≤ 256 := by have := HN.out.2.len; have := HN.out.1.a.fine.len; omega
                  go_wp2_with fail
                  (with_reducible refine (pputB w p q _ rs F4 G T _ K vo bs.length bc bs want own _ HI.out.2.2 hrl (HX.out.below HI.out.2.2.a.below) rfl hx5).mono ?_)
                  rintro r w6 ⟨rfl, G6, h6⟩
                  rw [HLP.out.2]
                  have H6 := Lib.hid h6
                  clear h6
                  go_wp2
                  go_meet
                  exact ⟨_, _, F4, G6, H6.out, HLP.out.1⟩
          -- END1
        · -- BEGIN2
          as_aux_lemma =>
              have t2' := alloc_cell (o := .cells #[] 5) t2
              go_upto_region 14 with (at_builtin; refine wpList_append' rfl (.tmp 54) (.tmp 56) el_u8 rfl rfl rfl (Own.alloc0 _ 1 _ _) (show (bs.map cb).length = bs.length * 1 by rw [List.length_map, Nat.mul_one]) (HXB.out.below (hA2 _ _)) (one_cb bs) (by unfold maxLen; omega) (by omega) ?_; intro xo xc w3 hx hch _ hx2; simp only [Nat.zero_add, List.nil_append] at hx; have H3 := Lib.hid (And.intro (chg_new (Below.refl _ _) hch) (And.intro hx (new_blk (Below.refl _ _) hx2))); clear hx hch hx2)
              have HP3 := Lib.hid (HT0.out.stays H3.out.1)
              have HNB := Lib.hid (show ∀ a, xo = some a → a.block ∉ F ∧ a.block ∉ G ∧ ¬ a.block = T ∧ w.heap.size ≤ a.block ∧ a.block < w3.heap.size from fun a ha => by
                have h1 := H3.out.2.2 a ha
                refine ⟨fun hk => ?_, fun hk => ?_, fun e => ?_, Nat.le_trans HT0.out.a.below.size h1, (H3.out.2.1.at_ a ha).2.1⟩
                · have := HT0.out.a.tree.lt _ hk; omega
                · have := HT0.out.b.lt _ hk; omega
                · have := heap_lt HT0.out.act; omega)
              clear t0 t1 t2 t3 t4
              obtain ⟨t0, t1, t2, t3, t4⟩ := acells05 HP3.out.act
              go_wp2_with fail
              (with_reducible refine (pputA w p q ps rs F G T _ K xo bs.length xc bs want own w3 HP3.out (Own.bts H3.out.2.1) rfl hx5 hx6).mono ?_)
              rintro r w4 ⟨rfl, F4, h4, hc4, hg4⟩
              have ho4 := H3.out.2.1.keep hc4 (fun a ha => (HNB.out a ha).1)
              have H4 := Lib.hid (And.intro h4 (And.intro (show ∀ a, xo = some a → a.block ∉ F4 from fun a ha hk => by
                rcases hg4 _ hk with h1 | h1
                · exact (HNB.out a ha).1 h1
                · have := (HNB.out a ha).2.2.2.2; omega) ho4))
              clear h4 hc4 hg4 ho4 t0 t1 t2 t3 t4
              go_wp2
              go_loopg [71] bs.length (fun g v wx => ∃ (j : Nat) (cs : List Value), g + j = bs.length ∧ v = .int .i64 j ∧ Own wx 1 xo bs.length xc cs ∧ (∀ u ∈ cs, ∃ x : Int, u = .int .u8 x) ∧ PairBox w wx p q (putP ps K bs want own).1 rs F4 G T (.cells #[.int .u8 (kd.toNat : Int), .string key, .slice vo bs.length bc, .int .u64 (want : Int), .int .u64 (own : Int)] 52 (0, 0)))
              case atStart => exact ⟨0, bs.map cb, by omega, rfl, H4.out.2.2, fun u hu => by obtain ⟨x, _, rfl⟩ := List.mem_map.1 hu; exact ⟨_, rfl⟩, H4.out.1⟩
              case round =>
                obtain ⟨j, cs, hgj, rfl, hown, hcs, hpb⟩ := hrel
                have HI := Lib.hid (And.intro hown (And.intro hcs hpb))
                clear hown hcs hpb
                by_cases hj : j < bs.length
                · have hjI : (j : Int) < (bs.length : Int) := by omega
                  have hj0 : (0 : Int) ≤ (j : Int) := by omega
                  cases xo with
                  | none => have h1 := HI.out.1.nil rfl; have h2 := HI.out.1.le; omega
                  | some xa =>
                    obtain ⟨xb, xoff, xs⟩ := xa
                    obtain ⟨rfl, _, hfz, hcl⟩ := HI.out.1.at_ _ rfl
                    have hcl0 : cs.length = bs.length := by have := HI.out.1.len; omega
                    obtain ⟨u, hu⟩ : ∃ u, cs[j]? = some u := ⟨_, List.getElem?_eq_getElem (by omega)⟩
                    obtain ⟨x, rfl⟩ := HI.out.2.1 u (List.mem_of_getElem? hu)
                    have d0 := hcl j _ hu
                    have f0 := (hfz j (by have := HI.out.1.le; omega)).2
                    simp only at d0 f0
                    have HJ := Lib.hid (And.intro hcl0 hu)
                    clear hcl hfz hcl0 hu
                    go_wp2
                    go_roundg (gk - 1)
                    case measure => omega
                    case rel =>
                      refine ⟨j + 1, _, by omega, by go_num, HI.out.1.set j _ (by omega), fun u hu => ?_, HI.out.2.2.keep (Chg.one _ xb _ _) (fun k hk e => H4.out.2.1 _ rfl (e ▸ hk)) (fun k hk e => (HNB.out _ rfl).2.1 (e ▸ hk)) (fun e => (HNB.out _ rfl).2.2.1 e.symm) (fun k e => e ▸ (HNB.out _ rfl).2.2.2.1)⟩
                      rcases List.mem_or_eq_of_mem_set hu with hu | rfl
                      · exact HI.out.2.1 u hu
                      · exact ⟨_, rfl⟩
                · obtain ⟨t0, t1, t2, t3, t4⟩ := acells05 HI.out.2.2.act
                  have hrl : rs.length ≤ 256 := by have := HN.out.2.len; have := HN.out.1.a.fine.len; omega
                  go_wp2_with fail
                  (with_reducible refine (pputB w p q _ rs F4 G T _ K vo bs.length bc bs want own _ HI.out.2.2 hrl (HX.out.below HI.out.2.2.a.below) rfl hx5).mono ?_)
                  rintro r w6 ⟨rfl, G6, h6⟩
                  rw [HLP.out.2]
                  have H6 := Lib.hid h6
                  clear h6
                  go_wp2
                  go_meet
                  exact ⟨_, _, F4, G6, H6.out, HLP.out.1⟩
          -- END2
        · -- BEGIN3
          as_aux_lemma =>
              have t2' := alloc_cell (o := .cells #[] 5) t2
              go_upto_region 14 with (at_builtin; refine wpList_append' rfl (.tmp 54) (.tmp 56) el_u8 rfl rfl rfl (Own.alloc0 _ 1 _ _) (show (bs.map cb).length = bs.length * 1 by rw [List.length_map, Nat.mul_one]) (HXB.out.below (hA2 _ _)) (one_cb bs) (by unfold maxLen; omega) (by omega) ?_; intro xo xc w3 hx hch _ hx2; simp only [Nat.zero_add, List.nil_append] at hx; have H3 := Lib.hid (And.intro (chg_new (Below.refl _ _) hch) (And.intro hx (new_blk (Below.refl _ _) hx2))); clear hx hch hx2)
              have HP3 := Lib.hid (HT0.out.stays H3.out.1)
              have HNB := Lib.hid (show ∀ a, xo = some a → a.block ∉ F ∧ a.block ∉ G ∧ ¬ a.block = T ∧ w.heap.size ≤ a.block ∧ a.block < w3.heap.size from fun a ha => by
                have h1 := H3.out.2.2 a ha
                refine ⟨fun hk => ?_, fun hk => ?_, fun e => ?_, Nat.le_trans HT0.out.a.below.size h1, (H3.out.2.1.at_ a ha).2.1⟩
                · have := HT0.out.a.tree.lt _ hk; omega
                · have := HT0.out.b.lt _ hk; omega
                · have := heap_lt HT0.out.act; omega)
              clear t0 t1 t2 t3 t4
              obtain ⟨t0, t1, t2, t3, t4⟩ := acells05 HP3.out.act
              go_wp2_with fail
              (with_reducible refine (pputA w p q ps rs F G T _ K xo bs.length xc bs want own w3 HP3.out (Own.bts H3.out.2.1) rfl hx5 hx6).mono ?_)
              rintro r w4 ⟨rfl, F4, h4, hc4, hg4⟩
              have ho4 := H3.out.2.1.keep hc4 (fun a ha => (HNB.out a ha).1)
              have H4 := Lib.hid (And.intro h4 (And.intro (show ∀ a, xo = some a → a.block ∉ F4 from fun a ha hk => by
                rcases hg4 _ hk with h1 | h1
                · exact (HNB.out a ha).1 h1
                · have := (HNB.out a ha).2.2.2.2; omega) ho4))
              clear h4 hc4 hg4 ho4 t0 t1 t2 t3 t4
              go_wp2
              go_loopg [71] bs.length (fun g v wx => ∃ (j : Nat) (cs : List Value), g + j = bs.length ∧ v = .int .i64 j ∧ Own wx 1 xo bs.length xc cs ∧ (∀ u ∈ cs, ∃ x : Int, u = .int .u8 x) ∧ PairBox w wx p q (putP ps K bs want own).1 rs F4 G T (.cells #[.int .u8 (kd.toNat : Int), .string key, .slice vo bs.length bc, .int .u64 (want : Int), .int .u64 (own : Int)] 52 (0, 0)))
              case atStart => exact ⟨0, bs.map cb, by omega, rfl, H4.out.2.2, fun u hu => by obtain ⟨x, _, rfl⟩ := List.mem_map.1 hu; exact ⟨_, rfl⟩, H4.out.1⟩
              case round =>
                obtain ⟨j, cs, hgj, rfl, hown, hcs, hpb⟩ := hrel
                have HI := Lib.hid (And.intro hown (And.intro hcs hpb))
                clear hown hcs hpb
                by_cases hj : j < bs.length
                · have hjI : (j : Int) < (bs.length : Int) := by omega
                  have hj0 : (0 : Int) ≤ (j : Int) := by omega
                  cases xo with
                  | none => have h1 := HI.out.1.nil rfl; have h2 := HI.out.1.le; omega
                  | some xa =>
                    obtain ⟨xb, xoff, xs⟩ := xa
                    obtain ⟨rfl, _, hfz, hcl⟩ := HI.out.1.at_ _ rfl
                    have hcl0 : cs.length = bs.length := by have := HI.out.1.len; omega
                    obtain ⟨u, hu⟩ : ∃ u, cs[j]? = some u := ⟨_, List.getElem?_eq_getElem (by omega)⟩
                    obtain ⟨x, rfl⟩ := HI.out.2.1 u (List.mem_of_getElem? hu)
                    have d0 := hcl j _ hu
                    have f0 := (hfz j (by have := HI.out.1.le; omega)).2
                    simp only at d0 f0
                    have HJ := Lib.hid (And.intro hcl0 hu)
                    clear hcl hfz hcl0 hu
                    go_wp2
                    go_roundg (gk - 1)
                    case measure => omega
                    case rel =>
                      refine ⟨j + 1, _, by omega, by go_num, HI.out.1.set j _ (by omega), fun u hu => ?_, HI.out.2.2.keep (Chg.one _ xb _ _) (fun k hk e => H4.out.2.1 _ rfl (e ▸ hk)) (fun k hk e => (HNB.out _ rfl).2.1 (e ▸ hk)) (fun e => (HNB.out _ rfl).2.2.1 e.symm) (fun k e => e ▸ (HNB.out _ rfl).2.2.2.1)⟩
                      rcases List.mem_or_eq_of_mem_set hu with hu | rfl
                      · exact HI.out.2.1 u hu
                      · exact ⟨_, rfl⟩
                · obtain ⟨t0, t1, t2, t3, t4⟩ := acells05 HI.out.2.2.act
                  have hrl : rs.length ≤ 256 := by have := HN.out.2.len; have := HN.out.1.a.fine.len; omega
                  go_wp2_with fail
                  (with_reducible refine (pputB w p q _ rs F4 G T _ K vo bs.length bc bs want own _ HI.out.2.2 hrl (HX.out.below HI.out.2.2.a.below) rfl hx5).mono ?_)
                  rintro r w6 ⟨rfl, G6, h6⟩
                  rw [HLP.out.2]
                  have H6 := Lib.hid h6
                  clear h6
                  go_wp2
                  go_meet
                  exact ⟨_, _, F4, G6, H6.out, HLP.out.1⟩
          -- END3
        · -- BEGIN4
          as_aux_lemma =>
            have hrl : rs.length ≤ 256 := by have := HN.out.2.len; have := HN.out.1.a.fine.len; omega
            have HLD := Lib.hid (like_del HN.out.2 HN.out.1.a.fine.sorted K want)
            have hS0 : wb.drew.cell? ⟨T, 3, none⟩ = some (.int .u64 (want : Int)) := t3
            have HT0d := Lib.hid HT0.out.drew
            go_upto_region 24 with fail
            go_region_held3 (fun wx => wx.cell? ⟨T, 3, none⟩ = some (.int .u64 (want : Int)))
              (first | exact hS0 | exact hS1 | exact hS2)
              (first
                | (go_at_call 23; (with_reducible refine (pdelA w p q ps rs F G T _ K want _ HT0d.out).mono ?_); rintro e4 w4 ⟨rfl, F4, h4⟩; have hS1 := (acells5 h4.act).2.2.1; have H4 := Lib.hid h4; clear h4)
                | (go_at_call 26; (with_reducible refine (pdelB w p q _ rs F4 G T _ K want _ H4.out hrl).mono ?_); rintro e5 w5 ⟨rfl, G5, h5⟩; rw [HLD.out.2]; have hS2 := (acells5 h5.act).2.2.1; have H5 := Lib.hid h5; clear h5))
            go_wp2
            go_meet
            exact ⟨_, _, F4, G5, H5.out, HLD.out.1⟩
          -- END4
        · -- BEGIN5
          as_aux_lemma =>
            have hrl : rs.length ≤ 256 := by have := HN.out.2.len; have := HN.out.1.a.fine.len; omega
            go_wp2_with fail
            (with_reducible refine (pdropA w p q ps rs F G T _ own wb HT0.out).mono ?_)
            rintro r w4 ⟨rfl, F4, h4⟩
            clear t0 t1 t2 t3 t4
            obtain ⟨t0, t1, t2, t3, t4⟩ := acells05 h4.act
            have H4 := Lib.hid h4
            clear h4
            go_wp2_with fail
            (with_reducible refine (pdropB w p q _ rs F4 G T _ own w4 H4.out hrl).mono ?_)
            rintro r w5 ⟨rfl, G5, h5⟩
            have H5 := Lib.hid h5
            clear h5
            go_wp2
            go_meet
            exact ⟨_, _, F4, G5, H5.out, like_drop HN.out.2 own⟩
          -- END5
        · -- BEGIN6
          as_aux_lemma =>
            go_wp2
            go_meet
            exact ⟨ps, rs, F, G, HT0.out, HN.out.2⟩
          -- END6
      case rest =>
        -- BEGIN7
        as_aux_lemma =>
          obtain ⟨ps2, rs2, F2, G2, h7, hl7⟩ := hcut
          have H7 := Lib.hid (And.intro h7.toPair hl7)
          have hrl : rs2.length ≤ 256 := by have := hl7.len; have := h7.a.fine.len; omega
          clear h7 hl7 t0 t1 t2 t3 t4
          have hu := H7.out.1.a.fine.sorted.uniq
          have hlk := look_perm hu H7.out.2 K
          cases hlo : lookP ps2 K with
          | none =>
            have HNR := Lib.hid (look_all (show lookP rs2 K = none by rw [← hlk]; exact hlo))
            go_wp2_with fail
            (with_reducible refine (get_none p ps2 F2 K wc H7.out.1.a.tree H7.out.1.a.fine hlo).mono ?_)
            rintro r w8 ⟨rfl, hb8⟩
            have hA8 := hb8.trans ((hA2 w8 (.cells #[.string ⟨#[]⟩, .slice none 0 0, .int .u64 0, .int .u64 0] 32)).mono hb8.size)
            have H8 := Lib.hid (And.intro (H7.out.1.stays hA8) (heap_top w8 (.cells #[.string ⟨#[]⟩, .slice none 0 0, .int .u64 0, .int .u64 0] 32)))
            clear hb8 hA8 hlo hlk hu
            unfold zeroNd
            go_upto_region 30 with fail
            generalize w8.alloc (.cells #[.string ⟨#[]⟩, .slice none 0 0, .int .u64 0, .int .u64 0] 32) = w9 at *
            generalize w8.heap.size = T8 at *
            go_wp2_with fail
            (with_reducible refine (rget_none q rs2 G2 K w9 H8.out.1.b hrl HNR.out).mono ?_)
            rintro r w10 ⟨rfl, hb10⟩
            have hA10 := hb10.trans ((hA2 w10 (.cells #[.string ⟨#[]⟩, .slice none 0 0, .int .u64 0, .int .u64 0] 32)).mono hb10.size)
            have H10 := Lib.hid (And.intro (H8.out.1.stays hA10) (And.intro ((Chg.of_below hA10 (fun _ => False)).heap H8.out.2 (fun h => h)) (heap_top w10 (.cells #[.string ⟨#[]⟩, .slice none 0 0, .int .u64 0, .int .u64 0] 32))))
            clear hb10 hA10
            unfold zeroNd
            go_upto_region 31 with fail
            generalize w10.alloc (.cells #[.string ⟨#[]⟩, .slice none 0 0, .int .u64 0, .int .u64 0] 32) = w11 at *
            generalize w10.heap.size = T10 at *
            obtain ⟨u0, u1, u2, u3, _⟩ := cells4 H10.out.2.1
            obtain ⟨v0, v1, v2, v3, _⟩ := cells4 H10.out.2.2
            go_wp2_with fail
            (with_reducible refine (same_node ⟨#[]⟩ [] 0 0 0 none none 0 0 w11 (Bts.nil _ _) (Bts.nil _ _) rfl).mono ?_)
            rintro r w12 ⟨rfl, hb12⟩
            have H12 := Lib.hid (H10.out.1.stays hb12)
            clear hb12
            go_wp2_with fail
            (with_reducible refine (shows_any w p q ps2 rs2 F2 G2 w12 H12.out H7.out.2).mono ?_)
            rintro r w13 ⟨rfl, hb13⟩
            have H13 := Lib.hid (H12.out.stays hb13)
            clear hb13
            go_wp2
            go_roundg (K0 - 1)
            case measure => omega
            case rel => exact ⟨k + 1, ps2, rs2, F2, G2, by omega, by go_num, H13.out, H7.out.2⟩
          | some x =>
            obtain ⟨i, x', hx', h0, hno⟩ : ∃ (i : Nat) (x' : Pl), rs2[i]? = some x' ∧ cmpB x'.key K = 0 ∧ ∀ y ∈ rs2.take i, cmpB y.key K ≠ 0 := by
              rcases first_key rs2 K with h | h
              · rw [hlk, look_none h] at hlo; cases hlo
              · exact h
            obtain rfl : x' = x := by rw [hlk, look_first hx' h0 hno] at hlo; exact Option.some.inj hlo
            have HRG := Lib.hid (fun (W : World) (h : RTreeAt W q rs2 G2) => rget_some q rs2 G2 K x' i W h hrl hx' h0 hno)
            go_wp2_with fail
            (with_reducible refine (get_some p ps2 F2 K x' wc H7.out.1.a.tree H7.out.1.a.fine hlo).mono ?_)
            rintro r w8 ⟨bo, bc2, rfl, hb8, ho8, _⟩
            obtain ⟨xk, xb, xv, xw⟩ := x'
            dsimp only at *
            have hA8a := hA2 w8 (.cells #[.string xk, .slice bo xb.length bc2, .int .u64 (xv : Int), .int .u64 (xw : Int)] 32)
            have hA8 := hb8.trans (hA8a.mono hb8.size)
            have H8 := Lib.hid (And.intro (H7.out.1.stays hA8) (And.intro (heap_top w8 (.cells #[.string xk, .slice bo xb.length bc2, .int .u64 (xv : Int), .int .u64 (xw : Int)] 32)) (ho8.bts.below hA8a)))
            clear hb8 hA8 hA8a ho8 hlo hlk hu hx' h0 hno
            dsimp only [Nd.val]
            go_upto_region 30 with fail
            generalize w8.alloc (.cells #[.string xk, .slice bo xb.length bc2, .int .u64 (xv : Int), .int .u64 (xw : Int)] 32) = w9 at *
            generalize w8.heap.size = T8 at *
            go_wp2_with fail
            (with_reducible refine (HRG.out w9 H8.out.1.b).mono ?_)
            rintro r w10 ⟨co, cc, rfl, hb10, ho10⟩
            have hA10a := hA2 w10 (.cells #[.string xk, .slice co xb.length cc, .int .u64 (xv : Int), .int .u64 (xw : Int)] 32)
            have hA10 := hb10.trans (hA10a.mono hb10.size)
            have H10 := Lib.hid (And.intro (H8.out.1.stays hA10) (And.intro ((Chg.of_below hA10 (fun _ => False)).heap H8.out.2.1 (fun h => h)) (And.intro (heap_top w10 (.cells #[.string xk, .slice co xb.length cc, .int .u64 (xv : Int), .int .u64 (xw : Int)] 32)) (And.intro (H8.out.2.2.below hA10) (ho10.below hA10a)))))
            clear hb10 hA10 hA10a ho10
            dsimp only [Nd.val]
            go_upto_region 31 with fail
            generalize w10.alloc (.cells #[.string xk, .slice co xb.length cc, .int .u64 (xv : Int), .int .u64 (xw : Int)] 32) = w11 at *
            generalize w10.heap.size = T10 at *
            obtain ⟨u0, u1, u2, u3, _⟩ := cells4 H10.out.2.1
            obtain ⟨v0, v1, v2, v3, _⟩ := cells4 H10.out.2.2.1
            go_wp2_with fail
            (with_reducible refine (same_node xk xb xb.length (xv : Int) (xw : Int) bo co bc2 cc w11 H10.out.2.2.2.1 H10.out.2.2.2.2 rfl).mono ?_)
            rintro r w12 ⟨rfl, hb12⟩
            have H12 := Lib.hid (H10.out.1.stays hb12)
            clear hb12
            go_wp2_with fail
            (with_reducible refine (shows_any w p q ps2 rs2 F2 G2 w12 H12.out H7.out.2).mono ?_)
            rintro r w13 ⟨rfl, hb13⟩
            have H13 := Lib.hid (H12.out.stays hb13)
            clear hb13
            go_wp2
            go_roundg (K0 - 1)
            case measure => omega
            case rel => exact ⟨k + 1, ps2, rs2, F2, G2, by omega, by go_num, H13.out, H7.out.2⟩
        -- END7
    · go_wp2
      go_ret
      exact ⟨rfl, HN.out.1.a.below⟩
theorem treePlays_in (W : World) (base : Nat) (v0 : Value) (k0 : Value.okWide Try.prog W .any base 56 v0) (r0 : Rd Try.prog W 56 v0.cells.toList) :
    Calls Try.prog 9 #[v0] W fun e w' => e = .returned (.bool true) ∧ Below W.heap.size W w' := by
  obtain ⟨po, acts, d, rfl, h4, h5, h6⟩ := in_slice Try.underlying56 (size := 5) (by kernel_rfl) (by decide) (ActIs W) (fun es h => actIs_rd h) k0 r0
  exact treePlays_any po _ d acts W rfl h4 (Nat.le_trans h5 h6)
end Go.Proofs.Ytebhbfjnobcckaa
