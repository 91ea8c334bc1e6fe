/-
  THE LAW TreeDrops OF LAYER 6, WALKED.
-/
import Derived.Test.YtebhbfjnobcckaaTreeP
import Derived.Deep.RegionHeld3
import Derived.Deep.CutBlock
namespace Go.Proofs.Ytebhbfjnobcckaa
open Go Go.RowKit

theorem drop_is (l : List Pl) (own : Nat) : l.filter (fun x => decide (own = 0) || !(x.own == own)) = dropP l own := by
  unfold dropP
  by_cases h : own = 0
  · rw [if_pos h]
    exact List.filter_eq_self.2 (fun x _ => by simp [h])
  · rw [if_neg h]
    congr 1
    funext x
    simp [h]
theorem map_filter_pl (es : List Nd) (f : Pl → Bool) : (es.filter (fun e => f e.pl)).map Nd.pl = (es.map Nd.pl).filter f := by
  rw [List.filter_map]; rfl
theorem in_u64 {P : Program} {w : World} {r : Reach} {base : Nat} {t : TypeId} {v : Value} (hu : P.underlying t = some (.int .u64)) (hk : Value.okWide P w r base t v) (h : Rd P w t v.cells.toList) :
    ∃ n : Nat, v = .int .u64 (n : Int) ∧ n < 18446744073709551616 := by
  obtain ⟨n, rfl, h1⟩ := in_int hu hk h
  simp [IntKind.min, IntKind.max, IntKind.signed, IntKind.bits] at h1
  exact ⟨n.toNat, by congr 1; omega, by omega⟩
set_option maxHeartbeats 8000000 in
set_option maxRecDepth 100000 in
theorem treeDrops_any (po : Option Addr) (m d : Nat) (acts : List ActT) (owner : Nat) (pre : ByteArray) (w : World) (hpl : acts.length = m) (hp : RowOf w po 5 (ActIs w) acts) (hpm : m ≤ maxLen) (how : owner < 18446744073709551616) :
    Calls Try.prog 7 #[.slice po m d, .int .u64 (owner : Int), .string pre] w fun e w' => e = .returned (.bool true) ∧ Below w.heap.size w w' := by
  have HH := Lib.hid (And.intro hpl hp)
  clear hpl hp
  unfold maxLen at hpm
  by_cases h10 : 10 < pre.size
  · have h10i : (10 : Int) < (pre.size : Int) := by omega
    go_enter Try.func7, Try.ntmps7
    go_wp2_with fail
    (with_reducible refine (awake _).mono ?_)
    rintro e1 w1 ⟨rfl, hb1⟩
    have H1 := Lib.hid hb1
    clear hb1
    go_wp2
    go_ret
    exact ⟨rfl, H1.out⟩
  have h10i : ¬ (10 : Int) < (pre.size : Int) := by omega
  go_enter Try.func7, Try.ntmps7
  go_wp2_with fail
  (with_reducible refine (awake _).mono ?_)
  rintro e1 w1 ⟨rfl, hb1⟩
  have H1 := Lib.hid hb1
  clear hb1
  go_wp2_with fail
  (with_reducible refine (new_in w _ H1.out).mono ?_)
  rintro e2 w2 ⟨p, rfl, _, hn2⟩
  have H2 := Lib.hid hn2
  clear hn2
  go_upto_block 0 with fail
  go_cut [] (fun wx => ∃ (ps : List Pl) (F : List Nat), TreeIn w wx p ps F)
  case first =>
    -- BEGIN1
    as_aux_lemma =>
      go_wp2_with fail
      go_loopg [22] m (fun g v wr => ∃ (k : Nat) (ps : List Pl) (F : List Nat), g + k = m ∧ v = .int .i64 k ∧ TreeIn w wr p ps F)
      case atStart => exact ⟨0, [], [p], by omega, rfl, H2.out⟩
      case round =>
        clear H2 H1
        obtain ⟨k, ps, F, hgk, rfl, htree⟩ := hrel
        have HN := Lib.hid htree
        clear htree
        by_cases hk : k < m
        · obtain ⟨zb, zoff, t, rfl, hx1, hx2, hx3, hx4, hx5, hx6, hcs⟩ := act_of (k := k) HH.out.2 (by rw [HH.out.1]; exact hk)
          obtain ⟨c0, c1, c2, c3, c4⟩ := hcs _ HN.out.below
          clear hcs
          have HT := Lib.hid (And.intro (HN.out.box (.cells #[.int .u8 (t.kind.toNat : Int), .string t.key, .slice t.vo t.bs.length t.c, .int .u64 (t.want : Int), .int .u64 (t.own : Int)] 52)) (hx2.below HN.out.below))
          obtain ⟨kd, key, vo, bs, bc, want, own⟩ := t
          dsimp only at *
          clear hx1 hx2 hx3 hx4
          obtain ⟨t1, t2, t3, t4⟩ := acells5 HT.out.1.act
          by_cases h60 : 60 ≤ k
          · have i1 : decide ((k : Int) < 60) = false := decide_eq_false (by omega)
            have i1' : ¬ (k : Int) < 60 := by omega
            go_wp2
            go_roundg (gk - 1)
            case measure => omega
            case rel => exact ⟨k + 1, ps, F, by omega, by go_num, HT.out.1.tree⟩
          by_cases h200 : 200 ≤ key.size
          · have i1 : (k : Int) < 60 := by omega
            have i2 : decide ((key.size : Int) < 200) = false := decide_eq_false (by omega)
            have i2' : ¬ (key.size : Int) < 200 := by omega
            go_wp2
            go_roundg (gk - 1)
            case measure => omega
            case rel => exact ⟨k + 1, ps, F, by omega, by go_num, HT.out.1.tree⟩
          by_cases h5 : 5000 ≤ bs.length
          · have i1 : (k : Int) < 60 := by omega
            have i2 : (key.size : Int) < 200 := by omega
            have i3 : decide ((bs.length : Int) < 5000) = false := decide_eq_false (by omega)
            have i3' : ¬ (bs.length : Int) < 5000 := by omega
            go_wp2
            go_roundg (gk - 1)
            case measure => omega
            case rel => exact ⟨k + 1, ps, F, by omega, by go_num, HT.out.1.tree⟩
          have i1 : (k : Int) < 60 := by omega
          have i2 : (key.size : Int) < 200 := by omega
          have i3 : (bs.length : Int) < 5000 := by omega
          go_upto_region 10 with fail
          clear c0 c1 c2 c3 c4
          have HTB := Lib.hid ((Below.refl _ wr).alloc (Nat.le_refl _) (.cells #[.int .u8 (kd.toNat : Int), .string key, .slice vo bs.length bc, .int .u64 (want : Int), .int .u64 (own : Int)] 52))
          have HX := Lib.hid (HT.out.2.below HTB.out)
          generalize wr.alloc (.cells #[.int .u8 (kd.toNat : Int), .string key, .slice vo bs.length bc, .int .u64 (want : Int), .int .u64 (own : Int)] 52) = wb at *
          generalize wr.heap.size = T at *
          have hS0 : wb.drew.cell? ⟨T, 1, none⟩ = some (.string key) ∧ wb.drew.cell? ⟨T, 2, none⟩ = some (.slice vo bs.length bc) ∧ wb.drew.cell? ⟨T, 3, none⟩ = some (.int .u64 (want : Int)) ∧ wb.drew.cell? ⟨T, 4, none⟩ = some (.int .u64 (own : Int)) := ⟨t1, t2, t3, t4⟩
          go_region_held3 (fun wx => wx.cell? ⟨T, 1, none⟩ = some (.string key) ∧ wx.cell? ⟨T, 2, none⟩ = some (.slice vo bs.length bc) ∧ wx.cell? ⟨T, 3, none⟩ = some (.int .u64 (want : Int)) ∧ wx.cell? ⟨T, 4, none⟩ = some (.int .u64 (own : Int)))
            (first | exact hS0 | exact hS1 | exact hS2)
            (first
              | (go_at_call 24; (with_reducible refine (key_any key _).mono ?_); rintro e3 w3 ⟨K, rfl, hb3⟩; have h3 := HT.out.1.drew.stays hb3; have hS1 := acells5 h3.act; have H3 := Lib.hid (And.intro h3 hb3); clear h3 hb3)
              | (go_at_call 12; (with_reducible refine (put_box w p ps F T _ K vo bs.length bc bs want own _ H3.out.1 (HX.out.drew.below H3.out.2) rfl hx5 hx6).mono ?_); rintro e4 w4 ⟨rfl, F4, h4⟩; have hS2 := acells5 h4.act; have H4 := Lib.hid h4; clear h4))
          go_wp2
          go_roundg (gk - 1)
          case measure => omega
          case rel => exact ⟨k + 1, _, F4, by omega, by go_num, H4.out.tree⟩
        · go_wp2
          go_meet
          exact ⟨ps, F, HN.out⟩
    -- END1
  case rest =>
    -- BEGIN2
    as_aux_lemma =>
      obtain ⟨ps, F, h3⟩ := hcut
      have H3 := Lib.hid h3
      clear h3 H2 H1
      go_wp2_with fail
      (with_reducible refine (list_new p ps F wc H3.out.tree H3.out.fine).mono ?_)
      rintro r w4 ⟨xo, xc, es, rfl, hb4, hn4, hm4, _, hv4⟩
      have HV4 := Lib.hid (show (∀ k ∈ F, k < w4.heap.size) ∧ ∀ e ∈ es, ∀ a, e.vo = some a → a.block ∉ F from ⟨fun k hk => Nat.lt_of_lt_of_le (H3.out.tree.lt k hk) hb4.size, fun e he a ha hk => by have := hv4 e he a ha; have := H3.out.tree.lt _ hk; omega⟩)
      clear hv4
      obtain ⟨n, hn⟩ : ∃ n, ps.length = n := ⟨_, rfl⟩
      have hel : es.length = n := by rw [← hn, ← hm4, List.length_map]
      have hn256 : n ≤ 256 := by rw [← hn]; exact H3.out.fine.len
      have H4 := Lib.hid (And.intro (H3.out.stays hb4) (And.intro hn4 (And.intro hm4 hel)))
      rw [hn]
      clear hb4 hn4 hm4 hel hn
      go_wp2
      go_loopg [10, 11, 56] n (fun g v10 v11 v56 wr => ∃ (j : Nat) (ao : Option Addr) (an ac : Nat) (bo : Option Addr) (bn bc : Nat), g + j = n ∧ v56 = .int .i64 j ∧ v11 = .slice ao an ac ∧ v10 = .slice bo bn bc ∧ PickRel w4 wr es (fun e => preB e.key pre) (fun e => decide (owner = 0) || !(e.own == owner)) j j ao an ac bo bn bc)
      case atStart => exact ⟨0, none, 0, 0, none, 0, 0, by omega, rfl, rfl, rfl, PickRel.zero _ _ _ _⟩
      case round =>
        obtain ⟨j, ao, an, ac, bo, bn, bc, hgj, rfl, rfl, rfl, hpick⟩ := hrel
        have HP := Lib.hid hpick
        have han : an ≤ 256 := by
          have h1 := fl_own_len el_e hpick.one
          have h2 := List.length_filter_le (fun e => preB e.key pre) (es.take j)
          have h3 : (es.take j).length ≤ es.length := by rw [List.length_take]; omega
          have := H4.out.2.2.2
          omega
        have hbn : bn ≤ 256 := by
          have h1 := fl_own_len el_e hpick.two
          have h2 := List.length_filter_le (fun e => decide (owner = 0) || !(e.own == owner)) (es.take j)
          have h3 : (es.take j).length ≤ es.length := by rw [List.length_take]; omega
          have := H4.out.2.2.2
          omega
        by_cases hj : j < n
        · obtain ⟨e, he⟩ : ∃ e, es[j]? = some e := ⟨_, List.getElem?_eq_getElem (by rw [H4.out.2.2.2]; exact hj)⟩
          obtain ⟨b, off, rfl, c0, c1, c2, c3⟩ := nd_at (H4.out.2.1.below hpick.below).1 he
          have HE := Lib.hid he
          clear he hpick
          have HA := Lib.hid (And.intro ((Below.refl _ wr).alloc (Nat.le_refl _) (.cells #[.string e.key, .slice e.vo e.body.length e.vc, .int .u64 (e.ver : Int), .int .u64 (e.own : Int)] 32)) (heap_top wr (.cells #[.string e.key, .slice e.vo e.body.length e.vc, .int .u64 (e.ver : Int), .int .u64 (e.own : Int)] 32)))
          obtain ⟨t0, t1, t2, t3, _⟩ := cells4 HA.out.2
          have HPF := Lib.hid (fun w => has_prefix e.key pre w)
          obtain ⟨PB, hPB⟩ : ∃ PB, preB e.key pre = PB := ⟨_, rfl⟩
          have HPB := Lib.hid hPB
          rw [hPB] at HPF
          clear hPB
          go_upto_if 63 with (go_at_call 25; (with_reducible refine (HPF.out _).mono ?_); rintro r w5 ⟨rfl, rfl⟩)
          go_cut [11] (fun v11 wx => ∃ (ao : Option Addr) (an ac : Nat), v11 = .slice ao an ac ∧ PickRel w4 wx es (fun e => preB e.key pre) (fun e => decide (owner = 0) || !(e.own == owner)) (j + 1) j ao an ac bo bn bc ∧ wx.heap[wr.heap.size]? = some (.cells #[.string e.key, .slice e.vo e.body.length e.vc, .int .u64 (e.ver : Int), .int .u64 (e.own : Int)] 32 (0, 0)))
          case first =>
            -- BEGIN3
            as_aux_lemma =>
              clear c0 c1 c2 c3
              have HPQ := Lib.hid (And.intro (HP.out.stays HA.out.1) (And.intro HA.out.2 (show ∀ a, ao = some a → a.block ≠ wr.heap.size from fun a ha => Nat.ne_of_lt (HP.out.one.at_ a ha).2.1)))
              generalize wr.alloc (.cells #[.string e.key, .slice e.vo e.body.length e.vc, .int .u64 (e.ver : Int), .int .u64 (e.own : Int)] 32) = wq at *
              have hA2 := fun (W : World) (o : Obj) => (Below.refl W.heap.size W).alloc (Nat.le_refl _) o
              cases PB with
              | true =>
                go_wp2_with (at_builtin; refine wpList_append' rfl (.tmp 64) (.tmp 66) el_i rfl rfl rfl (HPQ.out.1.stays (hA2 _ _)).one (m := 1) (news := e.cells) rfl (Row.alloc _ #[.string e.key, .slice e.vo e.body.length e.vc, .int .u64 (e.ver : Int), .int .u64 (e.own : Int)] 32 (0, 0)) (el_e.one e) (by unfold maxLen; omega) (by omega) ?_; intro xo xc w6 hx hch _ hx2; have hp6 := HPQ.out.1.add1 HE.out HPB.out (hA2 _ _) hx hch hx2; have ht6 := hch.heap (heap_new HPQ.out.2.1) (fun ⟨a, ha, ea⟩ => HPQ.out.2.2 a ha ea); have H6 := Lib.hid (And.intro hp6 ht6); clear hx hch hx2 hp6 ht6)
                go_meet
                exact ⟨xo, an + 1, xc, rfl, H6.out⟩
              | false =>
                go_wp2
                go_meet
                exact ⟨ao, an, ac, rfl, HPQ.out.1.skip1 HE.out HPB.out, HPQ.out.2.1⟩
            -- END3
          case rest =>
            -- BEGIN4
            as_aux_lemma =>
              obtain ⟨ao2, an2, ac2, rfl, hp2, ht2⟩ := hcut
              have H5 := Lib.hid (And.intro hp2 ht2)
              obtain ⟨t0, t1, t2, t3, _⟩ := cells4 ht2
              clear hp2 ht2 c0 c1 c2 c3
              have hA2 := fun (W : World) (o : Obj) => (Below.refl W.heap.size W).alloc (Nat.le_refl _) o
              by_cases ho : owner = 0
              · subst ho
                have HG := Lib.hid (show (decide (0 = 0) || !(e.own == 0)) = true by simp)
                as_aux_lemma =>
                  go_wp2_with (at_builtin; refine wpList_append' rfl (.tmp 76) (.tmp 78) el_i rfl rfl rfl (H5.out.1.stays (hA2 _ _)).two (m := 1) (news := e.cells) rfl (Row.alloc _ #[.string e.key, .slice e.vo e.body.length e.vc, .int .u64 (e.ver : Int), .int .u64 (e.own : Int)] 32 (0, 0)) (el_e.one e) (by unfold maxLen; omega) (by omega) ?_; intro xo xc w6 hx hch _ hx2; have hp6 := (H5.out.1.swap.add1 HE.out HG.out (hA2 _ _) hx hch hx2).swap; have H6 := Lib.hid hp6; clear hx hch hx2 hp6)
                  go_roundg (gk - 1)
                  case measure => omega
                  case rel => exact ⟨j + 1, ao2, an2, ac2, xo, bn + 1, xc, by omega, by go_num, rfl, rfl, H6.out⟩
              · have hoi : ((owner : Int) == 0) = false := by simp; omega
                have hok : ¬ (owner : Int) = 0 := by omega
                by_cases he : e.own = owner
                · have hei : ((e.own : Int) == (owner : Int)) = true := by simp; omega
                  have hej : (e.own : Int) = (owner : Int) := by omega
                  have HG := Lib.hid (show (decide (owner = 0) || !(e.own == owner)) = false by simp [ho, he])
                  clear ho he
                  as_aux_lemma =>
                    go_wp2
                    go_roundg (gk - 1)
                    case measure => omega
                    case rel => exact ⟨j + 1, ao2, an2, ac2, bo, bn, bc, by omega, by go_num, rfl, rfl, (H5.out.1.swap.skip1 HE.out HG.out).swap⟩
                · have hei : ((e.own : Int) == (owner : Int)) = false := by simp; omega
                  have HG := Lib.hid (show (decide (owner = 0) || !(e.own == owner)) = true by simp [he])
                  clear ho he
                  as_aux_lemma =>
                    go_wp2_with (at_builtin; refine wpList_append' rfl (.tmp 76) (.tmp 78) el_i rfl rfl rfl (H5.out.1.stays (hA2 _ _)).two (m := 1) (news := e.cells) rfl (Row.alloc _ #[.string e.key, .slice e.vo e.body.length e.vc, .int .u64 (e.ver : Int), .int .u64 (e.own : Int)] 32 (0, 0)) (el_e.one e) (by unfold maxLen; omega) (by omega) ?_; intro xo xc w6 hx hch _ hx2; have hp6 := (H5.out.1.swap.add1 HE.out HG.out (hA2 _ _) hx hch hx2).swap; have H6 := Lib.hid hp6; clear hx hch hx2 hp6)
                    go_roundg (gk - 1)
                    case measure => omega
                    case rel => exact ⟨j + 1, ao2, an2, ac2, xo, bn + 1, xc, by omega, by go_num, rfl, rfl, H6.out⟩
            -- END4
        · obtain rfl : j = n := by omega
          clear hpick
          -- BEGIN5
          as_aux_lemma =>
            have htk : es.take j = es := List.take_of_length_le (by rw [H4.out.2.2.2]; exact Nat.le_refl _)
            have hp1 := HP.out
            have hone := hp1.one
            have htwo := hp1.two
            rw [htk] at hone htwo
            have hl1 := fl_own_len el_e hone
            have hl2 := fl_own_len el_e htwo
            have hbd : ∀ (f : Nd → Bool), ∀ e ∈ es.filter f, Bts wr e.vo e.body := fun f e he => (H4.out.2.1.below hp1.below).2 e (List.mem_filter.1 he).1
            have hm1 : (es.filter (fun e => preB e.key pre)).map Nd.pl = listP ps pre := by rw [← H4.out.2.2.1]; exact map_filter_pl es (fun x => preB x.key pre)
            have hm2 : (es.filter (fun e => decide (owner = 0) || !(e.own == owner))).map Nd.pl = dropP ps owner := by rw [← H4.out.2.2.1, ← drop_is]; exact map_filter_pl es (fun x => decide (owner = 0) || !(x.own == owner))
            have HA1 := Lib.hid (show NodesAt wr ao _ from ⟨hone.row, hbd _⟩)
            have HB1 := Lib.hid (show NodesAt wr bo _ from ⟨htwo.row, hbd _⟩)
            have HT := Lib.hid (And.intro (H4.out.1.stays hp1.below) (And.intro hm1 (And.intro hm2 (And.intro hl1 hl2))))
            have HBN := Lib.hid (show (∀ a, bo = some a → ¬ a.block ∈ F) ∧ ∀ e ∈ es.filter (fun e => decide (owner = 0) || !(e.own == owner)), ∀ a, e.vo = some a → ¬ a.block ∈ F from ⟨fun a ha hk => by have := hp1.new2 a ha; have := HV4.out.1 _ hk; omega, fun e he => HV4.out.2 e (List.mem_filter.1 he).1⟩)
            clear hp1 hone htwo hl1 hl2 hbd hm1 hm2 htk
            generalize es.filter (fun e => preB e.key pre) = e1 at *
            generalize es.filter (fun e => decide (owner = 0) || !(e.own == owner)) = e2 at *
            go_wp2_with fail
            (with_reducible refine (list_pre p pre ps F wr HT.out.1.tree HT.out.1.fine.len HT.out.1.fine.body).mono ?_)
            rintro r w5 ⟨yo, yc, fs, rfl, hb5, hn5, hm5, _, _⟩
            have hlen : (listP ps pre).length = an := by rw [← HT.out.2.1, List.length_map]; exact HT.out.2.2.2.1
            rw [hlen]
            have H5 := Lib.hid (And.intro hb5 (And.intro hn5 (And.intro (show fs.length = an by rw [← hlen, ← hm5, List.length_map]) (show fs.map Nd.pl = e1.map Nd.pl by rw [hm5, HT.out.2.1]))))
            clear hb5 hn5 hm5 hlen
            go_wp2_with fail
            (with_reducible refine (same_nodes yo ao an yc ac fs e1 _ H5.out.2.1 (HA1.out.below H5.out.1) H5.out.2.2.1 H5.out.2.2.2 (by omega)).mono ?_)
            rintro r w6 ⟨rfl, hb6⟩
            have H6 := Lib.hid (H5.out.1.trans (hb6.mono H5.out.1.size))
            clear hb6
            go_wp2_with fail
            (with_reducible refine (drop_all p ps F owner _ (HT.out.1.stays H6.out).tree HT.out.1.fine).mono ?_)
            rintro r w7 ⟨rfl, hw7⟩
            obtain ⟨F7, h7, hc7, hg7⟩ := (HT.out.1.stays H6.out).wrote hw7 (HT.out.1.fine.drops owner)
            have H7 := Lib.hid (And.intro h7 hc7)
            clear hw7 h7 hc7 hg7
            go_wp2_with fail
            (with_reducible refine (list_new p (dropP ps owner) F7 _ H7.out.1.tree H7.out.1.fine).mono ?_)
            rintro r w8 ⟨zo, zc, gs, rfl, hb8, hn8, hm8, _, _⟩
            have hlen : (dropP ps owner).length = bn := by rw [← HT.out.2.2.1, List.length_map]; exact HT.out.2.2.2.2
            rw [hlen]
            have hb8' := (HB1.out.below H6.out).keep H7.out.2 HBN.out.1 HBN.out.2
            have H8 := Lib.hid (And.intro (H7.out.1.stays hb8) (And.intro hn8 (And.intro (show gs.length = bn by rw [← hlen, ← hm8, List.length_map]) (And.intro (show gs.map Nd.pl = e2.map Nd.pl by rw [hm8, HT.out.2.2.1]) (hb8'.below hb8)))))
            clear hb8 hn8 hm8 hlen hb8'
            go_wp2_with fail
            (with_reducible refine (same_nodes zo bo bn zc bc gs e2 _ H8.out.2.1 H8.out.2.2.2.2 H8.out.2.2.1 H8.out.2.2.2.1 (by omega)).mono ?_)
            rintro r w9 ⟨rfl, hb9⟩
            have H9 := Lib.hid (H8.out.1.stays hb9)
            clear hb9
            go_wp2
            go_ret
            exact ⟨rfl, H9.out.below⟩
          -- END5
    -- END2
theorem treeDrops_in (W : World) (base : Nat) (v0 v1 v2 : Value) (k0 : Value.okWide Try.prog W .any base 56 v0) (k1 : Value.okWide Try.prog W .any base 26 v1) (k2 : Value.okWide Try.prog W .any base 9 v2) (r0 : Rd Try.prog W 56 v0.cells.toList) (r1 : Rd Try.prog W 26 v1.cells.toList) (r2 : Rd Try.prog W 9 v2.cells.toList) :
    Calls Try.prog 7 #[v0, v1, v2] W fun e w' => e = .returned (.bool true) ∧ Below W.heap.size W w' := by
  obtain ⟨po, acts, d, rfl, h4, h5, h6⟩ := in_slice Try.underlying56 (size := 5) (by kernel_rfl) (by decide) (ActIs W) (fun es h => actIs_rd h) k0 r0
  obtain ⟨n, rfl, hn⟩ := in_u64 Try.underlying26 k1 r1
  obtain ⟨s, rfl⟩ := Go.WideShapes.okWide_string Try.underlying9 k2
  exact treeDrops_any po _ d acts n s W rfl h4 (Nat.le_trans h5 h6) hn
end Go.Proofs.Ytebhbfjnobcckaa
