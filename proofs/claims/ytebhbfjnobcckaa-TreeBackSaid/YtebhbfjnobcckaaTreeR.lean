/-
  THE LAW TreeBack OF LAYER 6, WALKED.
-/
import Derived.Test.YtebhbfjnobcckaaTreeP
import Derived.Deep.RegionHeld3
import Derived.Deep.CutBlock
namespace Go.Proofs.Ytebhbfjnobcckaa
open Go Go.RowKit

theorem less_of : ∀ {a b : List UInt8}, Lib.compareBytes a b < 0 → Op.bytesLess a b = true
  | [], [], h => by simp [Lib.compareBytes] at h
  | [], _ :: _, _ => by simp [Op.bytesLess]
  | _ :: _, [], h => by simp [Lib.compareBytes] at h
  | a :: ar, b :: br, h => by
    have ih := @less_of ar br
    unfold Lib.compareBytes at h
    simp only [UInt8.lt_iff_toNat_lt] at h
    by_cases h1 : a.toNat < b.toNat
    · simp [Op.bytesLess, UInt8.lt_iff_toNat_lt, h1]
    · rw [if_neg h1] at h
      by_cases h2 : b.toNat < a.toNat
      · rw [if_pos h2] at h; omega
      · rw [if_neg h2] at h
        have : a = b := UInt8.toNat_inj.1 (by omega)
        subst this
        simp [Op.bytesLess, ih h]
theorem valid_of {es : List Nd} {ps : List Pl} {n : Nat} (hm : es.map Nd.pl = ps) (hf : Fine ps) (hn : Nice ps n) : Valid es := by
  refine ⟨by have := hf.len; rw [← hm, List.length_map] at this; exact this, fun k e he => ?_⟩
  have hp : ps[k]? = some e.pl := by rw [← hm, List.getElem?_map, he]; rfl
  have hmem := List.mem_of_getElem? hp
  refine ⟨(hn.key _ hmem).1, (hn.key _ hmem).2, hf.body _ hmem, fun h => by have h1 := (hn.ver _ hmem).1; have : e.pl.ver = 0 := h; omega, ?_⟩
  cases k with
  | zero => exact .inl rfl
  | succ q =>
    obtain ⟨hk, he'⟩ := List.getElem?_eq_some_iff.1 he
    refine .inr ⟨q, es[q], rfl, List.getElem?_eq_getElem (by omega), ?_⟩
    have hk2 := (List.getElem?_eq_some_iff.1 hp).1
    have hs := List.pairwise_iff_getElem.1 hf.sorted q (q + 1) (by omega) hk2 (by omega)
    have e1 : ps[q] = es[q].pl := by simp [← hm]
    have e2 : ps[q + 1] = e.pl := by simp [← hm, he']
    rw [e1, e2] at hs
    rw [ba_toList, ba_toList]
    exact less_of hs
theorem look_del {l : List Pl} {key : ByteArray} (h : Sorted l) : lookP (delK l key) key = none := by
  induction l with
  | nil => rfl
  | cons x l ih =>
    obtain ⟨h1, h2⟩ := List.pairwise_cons.1 h
    rw [delK]
    by_cases h0 : cmpB x.key key = 0
    · rw [if_pos h0]
      refine look_none (fun y hy h3 => ?_)
      have h4 := h1 y hy
      rw [cmpB_zero.1 h0, cmpB_zero.1 h3] at h4
      have : cmpB key key = 0 := cmpB_zero.2 rfl
      omega
    · rw [if_neg h0, lookP, if_neg h0]
      exact ih h2
theorem look_key {l : List Pl} {key : ByteArray} {x : Pl} (h : lookP l key = some x) : x.key = key := by
  induction l with
  | nil => cases h
  | cons y l ih =>
    rw [lookP] at h
    split at h
    · rename_i h0; cases h; exact cmpB_zero.1 h0
    · exact ih h
set_option maxHeartbeats 8000000 in
set_option maxRecDepth 100000 in
theorem treeBack_any (po : Option Addr) (m d : Nat) (acts : List ActT) (key0 : ByteArray) (w : World) (hpl : acts.length = m) (hp : RowOf w po 5 (ActIs w) acts) (hpm : m ≤ maxLen) :
    Calls Try.prog 8 #[.slice po m d, .string key0] w fun e w' => e = .returned (.bool true) ∧ Below w.heap.size w w' := by
  have HH := Lib.hid (And.intro hpl hp)
  clear hpl hp
  unfold maxLen at hpm
  go_enter Try.func8, Try.ntmps8
  go_wp2_with fail
  (with_reducible refine (awake _).mono ?_)
  rintro e1 w1 ⟨rfl, hb1⟩
  have H1 := Lib.hid hb1
  clear hb1
  go_wp2_with fail
  (with_reducible refine (new_in w _ H1.out).mono ?_)
  rintro e2 w2 ⟨p, rfl, _, hn2⟩
  have H2 := Lib.hid hn2
  clear hn2
  go_upto_block 0 with fail
  go_cut [] (fun wx => ∃ (n : Nat) (ps : List Pl) (F : List Nat), TreeIn w wx p ps F ∧ Nice ps n)
  case first =>
    -- BEGIN1
    as_aux_lemma =>
      go_wp2_with fail
      go_loopg [23] m (fun g v wr => ∃ (k n : Nat) (ps : List Pl) (F : List Nat), g + k = m ∧ v = .int .i64 k ∧ TreeIn w wr p ps F ∧ Nice ps n ∧ n ≤ k)
      case atStart => exact ⟨0, 0, [], [p], by omega, rfl, H2.out, Nice.nil, Nat.le_refl _⟩
      case round =>
        clear H2 H1
        obtain ⟨k, n, ps, F, hgk, rfl, htree, hnice, hnk⟩ := hrel
        have HN := Lib.hid htree
        have HNI := Lib.hid hnice
        clear htree hnice
        by_cases hk : k < m
        · obtain ⟨zb, zoff, t, rfl, hx1, hx2, hx3, hx4, hx5, hx6, hcs⟩ := act_of (k := k) HH.out.2 (by rw [HH.out.1]; exact hk)
          obtain ⟨c0, c1, c2, c3, c4⟩ := hcs _ HN.out.below
          clear hcs
          have HT := Lib.hid (And.intro (HN.out.box (.cells #[.int .u8 (t.kind.toNat : Int), .string t.key, .slice t.vo t.bs.length t.c, .int .u64 (t.want : Int), .int .u64 (t.own : Int)] 52)) (hx2.below HN.out.below))
          obtain ⟨kd, key, vo, bs, bc, want, own⟩ := t
          dsimp only at *
          clear hx1 hx2 hx3 hx4
          obtain ⟨t1, t2, t3, t4⟩ := acells5 HT.out.1.act
          by_cases h60 : 60 ≤ k
          · have i1 : decide ((k : Int) < 60) = false := decide_eq_false (by omega)
            have i1' : ¬ (k : Int) < 60 := by omega
            go_wp2
            go_roundg (gk - 1)
            case measure => omega
            case rel => exact ⟨k + 1, n, ps, F, by omega, by go_num, HT.out.1.tree, HNI.out, by omega⟩
          by_cases h200 : 200 ≤ key.size
          · have i1 : (k : Int) < 60 := by omega
            have i2 : decide ((key.size : Int) < 200) = false := decide_eq_false (by omega)
            have i2' : ¬ (key.size : Int) < 200 := by omega
            go_wp2
            go_roundg (gk - 1)
            case measure => omega
            case rel => exact ⟨k + 1, n, ps, F, by omega, by go_num, HT.out.1.tree, HNI.out, by omega⟩
          by_cases h5 : 5000 ≤ bs.length
          · have i1 : (k : Int) < 60 := by omega
            have i2 : (key.size : Int) < 200 := by omega
            have i3 : decide ((bs.length : Int) < 5000) = false := decide_eq_false (by omega)
            have i3' : ¬ (bs.length : Int) < 5000 := by omega
            go_wp2
            go_roundg (gk - 1)
            case measure => omega
            case rel => exact ⟨k + 1, n, ps, F, by omega, by go_num, HT.out.1.tree, HNI.out, by omega⟩
          have i1 : (k : Int) < 60 := by omega
          have i2 : (key.size : Int) < 200 := by omega
          have i3 : (bs.length : Int) < 5000 := by omega
          go_upto_region 8 with fail
          clear c0 c1 c2 c3 c4
          have HTB := Lib.hid ((Below.refl _ wr).alloc (Nat.le_refl _) (.cells #[.int .u8 (kd.toNat : Int), .string key, .slice vo bs.length bc, .int .u64 (want : Int), .int .u64 (own : Int)] 52))
          have HX := Lib.hid (HT.out.2.below HTB.out)
          generalize wr.alloc (.cells #[.int .u8 (kd.toNat : Int), .string key, .slice vo bs.length bc, .int .u64 (want : Int), .int .u64 (own : Int)] 52) = wb at *
          generalize wr.heap.size = T at *
          have hS0 : wb.drew.cell? ⟨T, 1, none⟩ = some (.string key) ∧ wb.drew.cell? ⟨T, 2, none⟩ = some (.slice vo bs.length bc) ∧ wb.drew.cell? ⟨T, 3, none⟩ = some (.int .u64 (want : Int)) ∧ wb.drew.cell? ⟨T, 4, none⟩ = some (.int .u64 (own : Int)) := ⟨t1, t2, t3, t4⟩
          go_region_held3 (fun wx => wx.cell? ⟨T, 1, none⟩ = some (.string key) ∧ wx.cell? ⟨T, 2, none⟩ = some (.slice vo bs.length bc) ∧ wx.cell? ⟨T, 3, none⟩ = some (.int .u64 (want : Int)) ∧ wx.cell? ⟨T, 4, none⟩ = some (.int .u64 (own : Int)))
            (first | exact hS0 | exact hS1 | exact hS2)
            (first
              | (go_at_call 24; (with_reducible refine (key_any key _).mono ?_); rintro e3 w3 ⟨K, rfl, hb3⟩; have h3 := HT.out.1.drew.stays hb3; have hS1 := acells5 h3.act; have H3 := Lib.hid (And.intro h3 hb3); clear h3 hb3)
              | (go_at_call 12; (with_reducible refine (put_box w p ps F T _ K vo bs.length bc bs want own _ H3.out.1 (HX.out.drew.below H3.out.2) rfl hx5 hx6).mono ?_); rintro e4 w4 ⟨rfl, F4, h4⟩; have hS2 := acells5 h4.act; have H4 := Lib.hid h4; clear h4))
          go_wp2
          go_roundg (gk - 1)
          case measure => omega
          case rel => exact ⟨k + 1, n + 1, _, F4, by omega, by go_num, H4.out.tree, HNI.out.puts _ _ _ _ (by omega), by omega⟩
        · go_wp2
          go_meet
          exact ⟨n, ps, F, HN.out, HNI.out⟩
    -- END1
  case rest =>
    -- BEGIN2
    as_aux_lemma =>
      obtain ⟨n, ps, F, h3, hnice⟩ := hcut
      have H3 := Lib.hid (And.intro h3 hnice)
      clear h3 hnice H2 H1
      go_wp2_with fail
      (with_reducible refine (list_new p ps F wc H3.out.1.tree H3.out.1.fine).mono ?_)
      rintro r w4 ⟨xo, xc, es, rfl, hb4, hn4, hm4, _, _⟩
      obtain ⟨N, hN⟩ : ∃ N, ps.length = N := ⟨_, rfl⟩
      have hel : es.length = N := by rw [← hN, ← hm4, List.length_map]
      have hN256 : N ≤ 256 := by rw [← hN]; exact H3.out.1.fine.len
      have H4 := Lib.hid (And.intro (H3.out.1.stays hb4) (And.intro hn4 (And.intro hm4 (And.intro hel (valid_of hm4 H3.out.1.fine H3.out.2)))))
      rw [hN]
      have HNN := Lib.hid hN
      clear hb4 hn4 hm4 hel hN
      go_wp2_with fail
      (with_reducible refine (load_ok xo N xc es w4 H4.out.2.2.2.1 H4.out.2.1 H4.out.2.2.2.2).mono ?_)
      rintro r w5 ⟨p2, G, rfl, hb5, ht5, hG5⟩
      rw [H4.out.2.2.1] at ht5
      have h5 := H4.out.1.stays hb5
      have H5 := Lib.hid (And.intro h5 (And.intro (show TreeIn w w5 p2 ps G from ⟨ht5, fun k hk => Nat.le_trans H4.out.1.below.size (hG5 k hk), h5.below, h5.fine⟩) (And.intro (fun k hk hk2 => Nat.lt_irrefl _ (Nat.lt_of_lt_of_le (H4.out.1.tree.lt k hk) (hG5 k hk2)) : ∀ k ∈ F, k ∉ G) (H4.out.2.1.below hb5))))
      clear hb5 ht5 hG5 h5
      go_wp2_with fail
      (with_reducible refine (list_new p2 ps G w5 H5.out.2.1.tree H5.out.2.1.fine).mono ?_)
      rintro r w6 ⟨yo, yc, fs, rfl, hb6, hn6, hm6, _, _⟩
      rw [HNN.out]
      have H6 := Lib.hid (And.intro (H5.out.1.stays hb6) (And.intro (H5.out.2.1.stays hb6) (And.intro hn6 (And.intro (show fs.length = N by rw [← HNN.out, ← hm6, List.length_map]) (And.intro (show fs.map Nd.pl = es.map Nd.pl by rw [hm6, H4.out.2.2.1]) (H5.out.2.2.2.below hb6))))))
      clear hb6 hn6 hm6
      go_wp2_with fail
      (with_reducible refine (same_nodes yo xo N yc xc fs es _ H6.out.2.2.1 H6.out.2.2.2.2.2 H6.out.2.2.2.1 H6.out.2.2.2.2.1 (by omega)).mono ?_)
      rintro r w7 ⟨rfl, hb7⟩
      have H7 := Lib.hid (And.intro (H6.out.1.stays hb7) (H6.out.2.1.stays hb7))
      clear hb7
      go_wp2_with fail
      (with_reducible refine (key_any key0 w7).mono ?_)
      rintro r w8 ⟨K, rfl, hb8⟩
      have H8 := Lib.hid (And.intro (H7.out.1.stays hb8) (H7.out.2.stays hb8))
      clear hb8
      go_wp2_with fail
      cases hlk : lookP ps K with
      | none =>
        -- BEGIN3
        as_aux_lemma =>
          (with_reducible refine (get_none p ps F K w8 H8.out.1.tree H8.out.1.fine hlk).mono ?_)
          rintro r w9 ⟨rfl, hb9⟩
          have H9 := Lib.hid (H8.out.1.stays hb9)
          clear hb9
          unfold zeroNd
          go_wp2
          go_ret
          exact ⟨rfl, (H9.out.alloc _).below⟩
        -- END3
      | some x =>
        -- BEGIN4
        as_aux_lemma =>
          have hxk := look_key hlk
          have HLK := Lib.hid (show lookP ps x.key = some x by rw [hxk]; exact hlk)
          (with_reducible refine (get_some p ps F K x w8 H8.out.1.tree H8.out.1.fine hlk).mono ?_)
          rintro r w9 ⟨bo, bc, rfl, hb9, ho9, hnew9⟩
          clear hxk hlk
          have HDP := Lib.hid (show delP ps x.key x.ver = (delK ps x.key, 0) by unfold delP; rw [HLK.out]; dsimp only; rw [if_neg (fun h => h rfl)])
          have HDK := Lib.hid (look_del (key := x.key) H8.out.1.fine.sorted)
          have HFD := Lib.hid (H8.out.1.fine.sub (delK_sub ps x.key))
          obtain ⟨xk, xb, xv, xw⟩ := x
          dsimp only at *
          have hA := (Below.refl w9.heap.size w9).alloc (Nat.le_refl _) (.cells #[.string xk, .slice bo xb.length bc, .int .u64 (xv : Int), .int .u64 (xw : Int)] 32)
          have hbA := hb9.trans (hA.mono hb9.size)
          have H9 := Lib.hid (And.intro (H8.out.1.stays hbA) (And.intro (H8.out.2.stays hbA) (And.intro (heap_top w9 (.cells #[.string xk, .slice bo xb.length bc, .int .u64 (xv : Int), .int .u64 (xw : Int)] 32)) (And.intro (ho9.bts.below hA) (And.intro (fun hk => Nat.lt_irrefl _ (Nat.lt_of_lt_of_le (H8.out.2.tree.lt _ hk) hb9.size) : w9.heap.size ∉ G) (fun a ha hk => by have h1 := hnew9 a ha; have h2 := H8.out.2.tree.lt _ hk; omega : ∀ a, bo = some a → a.block ∉ G))))))
          clear hb9 ho9 hnew9 hA hbA
          dsimp only [Nd.val]
          go_upto_region 17 with fail
          generalize w9.alloc (.cells #[.string xk, .slice bo xb.length bc, .int .u64 (xv : Int), .int .u64 (xw : Int)] 32) = wA at *
          generalize w9.heap.size = T at *
          obtain ⟨t0, t1, t2, t3, _⟩ := cells4 H9.out.2.2.1
          have HDA := Lib.hid (show Calls Try.prog 23 #[.pointer (some ⟨p2, 0, none⟩), .string xk, .int .u64 (xv : Int)] wA fun r w' => r = .returned (.int .i64 0) ∧ Wrote wA w' p2 (delK ps xk) G from by
            have h := delete_all p2 ps G xk xv wA H9.out.2.1.tree H9.out.2.1.fine
            rw [HDP.out] at h
            exact h)
          go_wp2_with fail
          (with_reducible refine HDA.out.mono ?_)
          rintro r wB ⟨rfl, hw⟩
          obtain ⟨G2, hB2, hcB, _⟩ := H9.out.2.1.wrote hw HFD.out
          have HB := Lib.hid (And.intro (H9.out.1.keep hcB (fun k hk hk2 => H5.out.2.2.1 k hk hk2) (fun k hk => H9.out.2.1.new k hk)) (And.intro hB2 (And.intro (hcB.heap H9.out.2.2.1 H9.out.2.2.2.2.1) (show Bts wB bo xb from hcB.row H9.out.2.2.2.1 H9.out.2.2.2.2.2))))
          clear hw hB2 hcB t0 t1 t2 t3
          obtain ⟨t0, t1, t2, t3, _⟩ := cells4 HB.out.2.2.1
          go_wp2_with fail
          (with_reducible refine (get_none p2 (delK ps xk) G2 xk wB HB.out.2.1.tree HB.out.2.1.fine HDK.out).mono ?_)
          rintro r wC ⟨rfl, hbC⟩
          have hA2 := (Below.refl wC.heap.size wC).alloc (Nat.le_refl _) (.cells #[.string ⟨#[]⟩, .slice none 0 0, .int .u64 0, .int .u64 0] 32)
          have hbD := hbC.trans (hA2.mono hbC.size)
          have HC := Lib.hid (And.intro (HB.out.1.stays hbD) (And.intro ((Chg.of_below hbD (fun _ => False)).heap HB.out.2.2.1 (fun h => h)) (Bts.below HB.out.2.2.2 hbD)))
          clear hbC hA2 hbD t0 t1 t2 t3
          obtain ⟨t0, t1, t2, t3, _⟩ := cells4 HC.out.2.1
          unfold zeroNd
          go_upto_region 19 with fail
          generalize wC.alloc (.cells #[.string ⟨#[]⟩, .slice none 0 0, .int .u64 0, .int .u64 0] 32) = wD at *
          go_wp2_with fail
          (with_reducible refine (get_some p ps F xk ⟨xk, xb, xv, xw⟩ wD HC.out.1.tree HC.out.1.fine HLK.out).mono ?_)
          rintro r wE ⟨co, cc, rfl, hbE, hoE, _⟩
          have hA3 := (Below.refl wE.heap.size wE).alloc (Nat.le_refl _) (.cells #[.string xk, .slice co xb.length cc, .int .u64 (xv : Int), .int .u64 (xw : Int)] 32)
          have hbF := hbE.trans (hA3.mono hbE.size)
          have HE := Lib.hid (And.intro (HC.out.1.stays hbF) (And.intro ((Chg.of_below hbF (fun _ => False)).heap HC.out.2.1 (fun h => h)) (And.intro (Bts.below HC.out.2.2 hbF) (And.intro (hoE.bts.below hA3) (heap_top wE (.cells #[.string xk, .slice co xb.length cc, .int .u64 (xv : Int), .int .u64 (xw : Int)] 32))))))
          clear hbE hoE hA3 hbF t0 t1 t2 t3
          dsimp only [Nd.val]
          go_upto_region 20 with fail
          generalize wE.alloc (.cells #[.string xk, .slice co xb.length cc, .int .u64 (xv : Int), .int .u64 (xw : Int)] 32) = wF at *
          generalize wE.heap.size = T2 at *
          obtain ⟨t0, t1, t2, t3, _⟩ := cells4 HE.out.2.1
          obtain ⟨u0, u1, u2, u3, _⟩ := cells4 HE.out.2.2.2.2
          go_wp2_with fail
          (with_reducible refine (same_node xk xb xb.length (xv : Int) (xw : Int) bo co bc cc wF HE.out.2.2.1 HE.out.2.2.2.1 rfl).mono ?_)
          rintro r wG ⟨rfl, hbG⟩
          have HG := Lib.hid (HE.out.1.stays hbG)
          clear hbG
          go_wp2
          go_ret
          exact ⟨rfl, HG.out.below⟩
        -- END4
    -- END2
theorem treeBack_in (W : World) (base : Nat) (v0 v1 : Value) (k0 : Value.okWide Try.prog W .any base 56 v0) (k1 : Value.okWide Try.prog W .any base 9 v1) (r0 : Rd Try.prog W 56 v0.cells.toList) (r1 : Rd Try.prog W 9 v1.cells.toList) :
    Calls Try.prog 8 #[v0, v1] W fun e w' => e = .returned (.bool true) ∧ Below W.heap.size W w' := by
  obtain ⟨po, acts, d, rfl, h4, h5, h6⟩ := in_slice Try.underlying56 (size := 5) (by kernel_rfl) (by decide) (ActIs W) (fun es h => actIs_rd h) k0 r0
  obtain ⟨s, rfl⟩ := Go.WideShapes.okWide_string Try.underlying9 k1
  exact treeBack_any po _ d acts s W rfl h4 (Nat.le_trans h5 h6)
end Go.Proofs.Ytebhbfjnobcckaa
