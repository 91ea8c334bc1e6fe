/-
  LAYER 6: Load.
-/
import Derived.Test.YtebhbfjnobcckaaTreeI
namespace Go.Proofs.Ytebhbfjnobcckaa
open Go Go.RowKit

theorem key_none {key : ByteArray} (h : key.size = 0) : key.toList.isEmpty = true ∧ key.toList = [] := by
  have h1 : key.toList = [] := by
    rw [ba_toList]
    have : key.data.toList.length = 0 := by rw [Array.length_toList]; exact h
    exact List.eq_nil_of_length_eq_zero this
  exact ⟨by rw [h1]; rfl, h1⟩
theorem load_long (ao : Option Addr) (n c : Nat) (w : World) (hn : 256 < n) (hm : n ≤ 1000000) :
    Calls Try.prog 14 #[.slice ao n c] w fun r w' => r = .returned (.tuple #[.pointer none, .bool false]) ∧ Below w.heap.size w w' := by
  have h : (256 : Int) < (n : Int) := by omega
  go_enter Try.func14, Try.ntmps14
  go_wp2_with (go_at_call 11; (with_reducible refine (new_any _).mono ?_); rintro r w1 ⟨rfl, hb, _⟩; have H1 := Lib.hid hb; clear hb)
  go_ret2
  exact ⟨rfl, H1.out⟩
def LoadPost (res : Bool) (es : List Nd) (w : World) (r : Ending) (w' : World) : Prop := Below w.heap.size w w' ∧ (res = false ∧ r = .returned (.tuple #[.pointer none, .bool false]) ∨ res = true ∧ ∃ p F, r = .returned (.tuple #[.pointer (some ⟨p, 0, none⟩), .bool true]) ∧ TreeAt w' p (es.map Nd.pl) F ∧ ∀ k ∈ F, w.heap.size ≤ k)
set_option maxHeartbeats 8000000 in
set_option maxRecDepth 100000 in
theorem load_to (ao : Option Addr) (n c K : Nat) (es : List Nd) (w : World) (res : Bool) (hn : es.length = n) (hr : NodesAt w ao es) (hm : n ≤ 256) (hK : K ≤ n) (hg : ∀ k, k < K → ∀ e, es[k]? = some e → Good es k e) (hend : res = true ∧ K = n ∨ res = false ∧ ∃ e, es[K]? = some e ∧ ¬ Good es K e) :
    Calls Try.prog 14 #[.slice ao n c] w fun r w' => LoadPost res es w r w' := by
  have HK := Lib.hid hend
  have HX := Lib.hid (And.intro hn (And.intro hr hg))
  have h256 : ¬ (256 : Int) < (n : Int) := by omega
  clear hn hr hg hend
  go_enter Try.func14, Try.ntmps14
  go_wp2_with (go_at_call 11; (with_reducible refine (new_any _).mono ?_); rintro r w1 ⟨rfl, hb, ht⟩; have H1 := Lib.hid (And.intro hb ht); clear hb ht)
  obtain ⟨p, hp⟩ : ∃ p, p = w.heap.size := ⟨_, rfl⟩
  have HP := Lib.hid hp
  rw [← hp] at H1 ⊢
  clear hp
  go_loopg [13] K (fun g v wr => ∃ (k : Nat) (F : List Nat), g + k = K ∧ v = .int .i64 k ∧ TreeAt wr p ((es.map Nd.pl).take k) F ∧ (∀ j ∈ F, w.heap.size ≤ j) ∧ Below w.heap.size w wr)
  case atStart => exact ⟨0, [p], by omega, rfl, H1.out.2, fun j hj => by rw [List.mem_singleton] at hj; rw [hj, HP.out]; exact Nat.le_refl _, by have := H1.out.1; rw [HP.out] at this; exact this⟩
  case round =>
    clear H1
    obtain ⟨k, F, hgk, rfl, ht, hnF, hb⟩ := hrel
    have hrw := HX.out.2.1.1.below hb
    have HR := Lib.hid (And.intro ht (And.intro hnF hb))
    clear hb ht hnF
    by_cases hk : k < K
    · have hkn : k < n := by omega
      obtain ⟨e, he⟩ : ∃ e, es[k]? = some e := ⟨_, List.getElem?_eq_getElem (by rw [HX.out.1]; exact hkn)⟩
      obtain ⟨g1, g2, g3, g4, g5⟩ := HX.out.2.2 k hk e he
      obtain ⟨b, off, rfl, c0, c1, c2, c3⟩ := nd_at hrw he
      have HE := Lib.hid (And.intro he (And.intro (HX.out.2.1.2 e (List.mem_of_getElem? he)) g3))
      obtain ⟨i1, i1'⟩ := key_facts g1
      have i2 : decide ((64 : Int) < (e.key.size : Int)) = false := decide_eq_false (by omega)
      have i3 : decide ((3840 : Int) < (e.body.length : Int)) = false := decide_eq_false (by omega)
      have i4 : ((e.ver : Int) == 0) = false := by simp; omega
      obtain ⟨u0, u1, u2, u3, _⟩ := cells4 (heap_top wr (.cells #[.string e.key, .slice e.vo e.body.length e.vc, .int .u64 (e.ver : Int), .int .u64 (e.own : Int)] 32))
      clear g1 g2 g4 he
      go_upto_region 7 with fail
      go_cut [52] (fun v wx => v = .bool false ∧ ∃ nq, wx = (wr.alloc (.cells #[.string e.key, .slice e.vo e.body.length e.vc, .int .u64 (e.ver : Int), .int .u64 (e.own : Int)] 32)).drewN nq)
      case first =>
        rcases g5 with rfl | ⟨q, d, rfl, hd, hlt⟩
        · clear hrw
          simp only [Nat.zero_mul, Nat.add_zero] at c0 c1 c2 c3
          as_aux_lemma =>
            go_quiet (fail)
            go_wp2
            go_meet
            exact ⟨rfl, nq, rfl⟩
        · obtain ⟨b', off', hab, d0, _, _, _⟩ := nd_at hrw hd
          cases hab
          have dd0 := alloc_cell (o := (.cells #[.string e.key, .slice e.vo e.body.length e.vc, .int .u64 (e.ver : Int), .int .u64 (e.own : Int)] 32)) d0
          have j0 : (0 : Int) < ((q + 1 : Nat) : Int) := by omega
          have j1 := IntWalk.i64_in (((q + 1 : Nat) : Int) - 1) (by omega)
          have j2 : (((q + 1 : Nat) : Int) - 1).toNat = q := by omega
          have j3 : ((q + 1 : Nat) : Int) - 1 = (q : Int) := by omega
          have j5 : q < n := by omega
          clear hrw hd
          as_aux_lemma =>
            go_quiet (fail)
            go_wp2
            go_meet
            exact ⟨rfl, nq, rfl⟩
      case rest =>
        clear g5 hrw i1 i1' i2 i3 i4 c0 c1 c2 c3 u0 u1 u2 u3
        -- BEGIN1
        as_aux_lemma =>
          obtain ⟨rfl, nq, rfl⟩ := hcut
          go_upto_region 9 with fail
          have hb1 := bdrew ((Below.refl _ wr).alloc (Nat.le_refl _) (.cells #[.string e.key, .slice e.vo e.body.length e.vc, .int .u64 (e.ver : Int), .int .u64 (e.own : Int)] 32)) nq
          have hT1 := (heap_top wr (.cells #[.string e.key, .slice e.vo e.body.length e.vc, .int .u64 (e.ver : Int), .int .u64 (e.own : Int)] 32))
          have hI1 := HR.out.1.keep (Chg.of_below hb1 (fun _ => False)) (fun _ _ h => h)
          have hT2 : ((wr.alloc (.cells #[.string e.key, .slice e.vo e.body.length e.vc, .int .u64 (e.ver : Int), .int .u64 (e.own : Int)] 32)).drewN nq).heap[wr.heap.size]? = some (.cells #[.string e.key, .slice e.vo e.body.length e.vc, .int .u64 (e.ver : Int), .int .u64 (e.own : Int)] 32) := hT1
          generalize (wr.alloc (.cells #[.string e.key, .slice e.vo e.body.length e.vc, .int .u64 (e.ver : Int), .int .u64 (e.own : Int)] 32)).drewN nq = W at *
          obtain ⟨t0, t1, t2, t3, _⟩ := cells4 hT2
          obtain ⟨lo, m, cap, l, hI1⟩ := hI1
          obtain ⟨z0, z2⟩ := cells1 hI1.heap
          have hml := hI1.len.2
          rw [List.length_take, List.length_map, HX.out.1, Nat.min_eq_left (by omega)] at hml
          have hm256 : m ≤ 256 := by omega
          clear hml
          have HCO := Lib.hid (show Calls Try.prog 31 #[.agg #[.string e.key, .slice e.vo e.body.length e.vc, .int .u64 (e.ver : Int), .int .u64 (e.own : Int)]] W.drew (fun r w' => ∃ bo bc, r = .returned (.agg #[.string e.key, .slice bo e.body.length bc, .int .u64 (e.ver : Int), .int .u64 (e.own : Int)]) ∧ Below W.drew.heap.size W.drew w' ∧ Own w' 1 bo e.body.length bc (e.body.map cb) ∧ ∀ a, bo = some a → W.drew.heap.size ≤ a.block) from copied_any e W.drew ((HE.out.2.1.below (HR.out.2.2.trans (hb1.mono HR.out.2.2.size))).drew) (by omega))
          have z0d : W.drew.cell? ⟨p, 0, none⟩ = some (.slice lo m cap) := z0
          have t0d : W.drew.cell? ⟨wr.heap.size, 0, none⟩ = some (.string e.key) := t0
          have t1d : W.drew.cell? ⟨wr.heap.size, 1, none⟩ = some (.slice e.vo e.body.length e.vc) := t1
          have t2d : W.drew.cell? ⟨wr.heap.size, 2, none⟩ = some (.int .u64 (e.ver : Int)) := t2
          have t3d : W.drew.cell? ⟨wr.heap.size, 3, none⟩ = some (.int .u64 (e.own : Int)) := t3
          have HI1 := Lib.hid (And.intro hI1 hb1)
          have HZ := Lib.hid (show m + 1 ≤ maxLen ∧ (m + 1) * 56 ≤ 140737488355328 from ⟨by unfold maxLen; omega, by omega⟩)
          clear hI1 hb1 hT1 hT2 t0 t1 t2 t3 z0
          go_region_law (first
            | (refine step_append' rfl (.tmp 57) (.tmp 60) el_i rfl (c := 1) ?hs ?hx H3.out.1 (m := 1) (news := [.string e.key, .slice bo e.body.length bc, .int .u64 (e.ver : Int), .int .u64 (e.own : Int)]) rfl H3.out.2.1 (el_e.one ⟨e.key, e.body, e.ver, e.own, bo, bc⟩) HZ.out.1 HZ.out.2 ?_; (case hs => simp [Act.eval, Act.put]); (case hx => simp [Act.eval, Act.put]); intro xo xc w4 hx hch _ hx2; have hp4 := hch.heap H3.out.2.2.2.1 (fun ⟨a, ha, ea⟩ => HI1.out.1.apart (mem_blk.2 ⟨a, ha, ea⟩)); obtain ⟨f0, f2⟩ := cells1 hp4; have H4 := Lib.hid (And.intro (app_end (e := ⟨e.key, e.body, e.ver, e.own, bo, bc⟩) HI1.out.1 H3.out.2.2.2.2.1 H3.out.2.2.2.2.2.1 H3.out.2.2.2.2.2.2.1 H3.out.2.2.2.2.2.2.2 hx hch hx2 hp4) hp4); clear hx hch hx2 hp4)
            | (go_simp; go_at_call 31; (with_reducible refine HCO.out.mono ?_); rintro r w3 ⟨bo, bc, rfl, hb3, ho3, hn3⟩; have hC3 := (Chg.refl (fun _ => False) W).drew.trans (Chg.of_below hb3 (fun _ => False)) (fun _ _ h => h); have hA3 := (Chg.refl (fun _ => False) w3).alloc (.cells #[.string e.key, .slice bo e.body.length bc, .int .u64 (e.ver : Int), .int .u64 (e.own : Int)] 32); obtain ⟨u0, u2⟩ := cells1 (hC3.heap HI1.out.1.heap (fun h => h)); have u0a : (w3.alloc (.cells #[.string e.key, .slice bo e.body.length bc, .int .u64 (e.ver : Int), .int .u64 (e.own : Int)] 32)).cell? ⟨p, 0, none⟩ = some (.slice lo m cap) := alloc_cell u0; have H3 := Lib.hid (And.intro (HI1.out.1.own.keep (hC3.trans hA3 (fun _ _ h => h)) (fun _ _ h => h)) (And.intro (Row.alloc w3 #[.string e.key, .slice bo e.body.length bc, .int .u64 (e.ver : Int), .int .u64 (e.own : Int)] 32 (0, 0)) (And.intro trivial (And.intro (hA3.heap (hC3.heap HI1.out.1.heap (fun h => h)) (fun h => h)) (And.intro hC3 (And.intro hA3 (And.intro ho3 hn3))))))); clear hb3 ho3 hn3 hC3 hA3))
          all_goals go_wp2
          all_goals (
            go_roundg (gk - 1)
            case measure => omega
            case rel =>
              obtain ⟨F4, h4, h5, h6⟩ := H4.out.1
              have hsz := HI1.out.2.size
              refine ⟨k + 1, F4, by omega, by go_num, ?_, fun j hj => ?_, ?_⟩
              · rw [show (es.map Nd.pl).take (k + 1) = (es.map Nd.pl).take (k) ++ [e.pl] by rw [List.take_add_one, List.getElem?_map, HE.out.1]; rfl]
                exact h4
              · rcases h6 j hj with h | h
                · exact HR.out.2.1 j h
                · have := HR.out.2.2.size; omega
              · exact (HR.out.2.2.trans (HI1.out.2.mono HR.out.2.2.size)).trans (h5.below (by have := HR.out.2.2.size; omega) HR.out.2.1))
        -- END1
    · obtain rfl : k = K := by omega
      rcases HK.out with ⟨rfl, rfl⟩ | ⟨rfl, e, he, hbad⟩
      · clear hrw
        as_aux_lemma =>
          go_wp2
          go_ret2
          have ht := HR.out.1
          rw [List.take_of_length_le (by rw [List.length_map, HX.out.1]; exact Nat.le_refl _)] at ht
          exact ⟨HR.out.2.2, .inr ⟨rfl, p, F, rfl, ht, HR.out.2.1⟩⟩
      · have hkn : k < n := by have := (List.getElem?_eq_some_iff.1 he).1; have := HX.out.1; omega
        obtain ⟨b, off, rfl, c0, c1, c2, c3⟩ := nd_at hrw he
        obtain ⟨u0, u1, u2, u3, _⟩ := cells4 (heap_top wr (.cells #[.string e.key, .slice e.vo e.body.length e.vc, .int .u64 (e.ver : Int), .int .u64 (e.own : Int)] 32))
        rcases bad_why (by have := HX.out.1; omega) hbad with h | ⟨h1, h⟩ | ⟨h1, h2, h⟩ | ⟨h1, h2, h3, h⟩ | ⟨h1, h2, h3, h4, q, d, rfl, hd, h⟩
        · obtain ⟨i1, i1'⟩ := key_none h
          clear h he hbad hrw
          -- BEGIN3
          as_aux_lemma =>
            go_wp2
            go_quiet (fail)
            go_wp2
            go_ret2
            exact ⟨bdrew (HR.out.2.2.alloc HR.out.2.2.size _) _, .inl ⟨rfl, rfl⟩⟩
          -- END3
        · obtain ⟨i1, i1'⟩ := key_facts h1
          have i2 : (64 : Int) < (e.key.size : Int) := by omega
          clear h h1 he hbad hrw
          -- BEGIN4
          as_aux_lemma =>
            go_wp2
            go_quiet (fail)
            go_wp2
            go_ret2
            exact ⟨bdrew (HR.out.2.2.alloc HR.out.2.2.size _) _, .inl ⟨rfl, rfl⟩⟩
          -- END4
        · obtain ⟨i1, i1'⟩ := key_facts h1
          have i2 : decide ((64 : Int) < (e.key.size : Int)) = false := decide_eq_false (by omega)
          have i3 : (3840 : Int) < (e.body.length : Int) := by omega
          clear h h1 h2 he hbad hrw
          -- BEGIN5
          as_aux_lemma =>
            go_wp2
            go_quiet (fail)
            go_wp2
            go_ret2
            exact ⟨bdrew (HR.out.2.2.alloc HR.out.2.2.size _) _, .inl ⟨rfl, rfl⟩⟩
          -- END5
        · obtain ⟨i1, i1'⟩ := key_facts h1
          have i2 : decide ((64 : Int) < (e.key.size : Int)) = false := decide_eq_false (by omega)
          have i3 : decide ((3840 : Int) < (e.body.length : Int)) = false := decide_eq_false (by omega)
          have i4 : ((e.ver : Int) == 0) = true := by simp; omega
          clear h h1 h2 h3 he hbad hrw
          -- BEGIN6
          as_aux_lemma =>
            go_wp2
            go_quiet (fail)
            go_wp2
            go_ret2
            exact ⟨bdrew (HR.out.2.2.alloc HR.out.2.2.size _) _, .inl ⟨rfl, rfl⟩⟩
          -- END6
        · obtain ⟨b', off', hab, d0, _, _, _⟩ := nd_at hrw hd
          cases hab
          have dd0 := alloc_cell (o := (.cells #[.string e.key, .slice e.vo e.body.length e.vc, .int .u64 (e.ver : Int), .int .u64 (e.own : Int)] 32)) d0
          obtain ⟨i1, i1'⟩ := key_facts h1
          have i2 : decide ((64 : Int) < (e.key.size : Int)) = false := decide_eq_false (by omega)
          have i3 : decide ((3840 : Int) < (e.body.length : Int)) = false := decide_eq_false (by omega)
          have i4 : ((e.ver : Int) == 0) = false := by simp; omega
          have j0 : (0 : Int) < ((q + 1 : Nat) : Int) := by omega
          have j1 := IntWalk.i64_in (((q + 1 : Nat) : Int) - 1) (by omega)
          have j2 : (((q + 1 : Nat) : Int) - 1).toNat = q := by omega
          have j3 : ((q + 1 : Nat) : Int) - 1 = (q : Int) := by omega
          have j5 : q < n := by omega
          clear h1 h2 h3 h4 he hbad hrw hd
          -- BEGIN7
          as_aux_lemma =>
            go_wp2
            go_quiet (fail)
            go_wp2
            go_ret2
            exact ⟨bdrew (HR.out.2.2.alloc HR.out.2.2.size _) _, .inl ⟨rfl, rfl⟩⟩
          -- END7
end Go.Proofs.Ytebhbfjnobcckaa
