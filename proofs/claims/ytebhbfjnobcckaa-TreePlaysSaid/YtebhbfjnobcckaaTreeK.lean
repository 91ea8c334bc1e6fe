/-
  THE LAW TreeLoads OF LAYER 6, WALKED.
-/
import Derived.Test.YtebhbfjnobcckaaTreeJ
namespace Go.Proofs.Ytebhbfjnobcckaa
open Go Go.RowKit

def Valid (es : List Nd) : Prop := es.length ≤ 256 ∧ ∀ k e, es[k]? = some e → Good es k e
theorem not_valid {es : List Nd} (h : ¬ Valid es) (hl : es.length ≤ 256) : ∃ K, K ≤ es.length ∧ (∀ k, k < K → ∀ e, es[k]? = some e → Good es k e) ∧ ∃ e, es[K]? = some e ∧ ¬ Good es K e := by
  rcases first_bad es es.length with h1 | ⟨k, hk, e, he, hb, h2⟩
  · refine absurd ⟨hl, fun k e he => h1 k ?_ e he⟩ h
    exact (List.getElem?_eq_some_iff.1 he).1
  · exact ⟨k, Nat.le_of_lt hk, h2, e, he, hb⟩
theorem load_false (ao : Option Addr) (n c : Nat) (es : List Nd) (w : World) (hn : es.length = n) (hr : NodesAt w ao es) (hm : n ≤ 1000000) (hv : ¬ Valid es) :
    Calls Try.prog 14 #[.slice ao n c] w fun r w' => r = .returned (.tuple #[.pointer none, .bool false]) ∧ Below w.heap.size w w' := by
  by_cases h : 256 < n
  · exact load_long ao n c w h hm
  · obtain ⟨K, hK, hg, hb⟩ := not_valid hv (by omega)
    refine (load_to ao n c K es w false hn hr (by omega) (by omega) hg (.inr ⟨rfl, hb⟩)).mono ?_
    rintro r w' ⟨h1, ⟨_, rfl⟩ | ⟨h2, _⟩⟩
    · exact ⟨rfl, h1⟩
    · cases h2
theorem load_ok (ao : Option Addr) (n c : Nat) (es : List Nd) (w : World) (hn : es.length = n) (hr : NodesAt w ao es) (hv : Valid es) :
    Calls Try.prog 14 #[.slice ao n c] w fun r w' => ∃ p F, r = .returned (.tuple #[.pointer (some ⟨p, 0, none⟩), .bool true]) ∧ Below w.heap.size w w' ∧ TreeAt w' p (es.map Nd.pl) F ∧ ∀ k ∈ F, w.heap.size ≤ k := by
  refine (load_to ao n c n es w true hn hr (by rw [← hn]; exact hv.1) (Nat.le_refl _) (fun k _ e he => hv.2 k e he) (.inl ⟨rfl, rfl⟩)).mono ?_
  rintro r w' ⟨h1, ⟨h2, _⟩ | ⟨_, p, F, rfl, h3, h4⟩⟩
  · cases h2
  · exact ⟨p, F, rfl, h1, h3, h4⟩
theorem loads_false (ao : Option Addr) (n c : Nat) (es : List Nd) (w : World) (hn : es.length = n) (hr : NodesAt w ao es) (hm : n ≤ 1000000) (hv : ¬ Valid es) :
    Calls Try.prog 15 #[.slice ao n c] w fun r w' => r = .returned (.bool false) ∧ Below w.heap.size w w' := by
  by_cases h : 256 < n
  · refine (loads_long ao n c w h hm).mono ?_
    rintro r w' ⟨rfl, rfl⟩
    exact ⟨rfl, Below.refl _ _⟩
  · obtain ⟨K, hK, hg, hb⟩ := not_valid hv (by omega)
    exact loads_to ao n c K es w false hn hr.1 (by omega) (by omega) hg (.inr ⟨rfl, hb⟩)
theorem loads_ok (ao : Option Addr) (n c : Nat) (es : List Nd) (w : World) (hn : es.length = n) (hr : NodesAt w ao es) (hv : Valid es) :
    Calls Try.prog 15 #[.slice ao n c] w fun r w' => r = .returned (.bool true) ∧ Below w.heap.size w w' :=
  loads_to ao n c n es w true hn hr.1 (by rw [← hn]; exact hv.1) (Nat.le_refl _) (fun k _ e he => hv.2 k e he) (.inl ⟨rfl, rfl⟩)
theorem Valid.body {es : List Nd} (h : Valid es) : ∀ x ∈ es.map Nd.pl, x.body.length ≤ 3840 := by
  intro x hx
  obtain ⟨e, he, rfl⟩ := List.mem_map.1 hx
  obtain ⟨i, hi, rfl⟩ := List.getElem_of_mem he
  exact (h.2 i _ (List.getElem?_eq_getElem hi)).2.2.1
set_option maxHeartbeats 4000000 in
set_option maxRecDepth 100000 in
theorem treeLoads_any (ao : Option Addr) (n c : Nat) (es : List Nd) (w : World) (hn : es.length = n) (hr : NodesAt w ao es) (hm : n ≤ maxLen) :
    Calls Try.prog 4 #[.slice ao n c] w fun e w' => e = .returned (.bool true) ∧ Below w.heap.size w w' := by
  have HX := Lib.hid (And.intro hn hr)
  clear hn hr
  unfold maxLen at hm
  by_cases h300 : 300 < n
  · have hI : (300 : Int) < (n : Int) := by omega
    go_enter Try.func4, Try.ntmps4
    go_wp2_with (go_at_call 10; (with_reducible refine (awake _).mono ?_); rintro e1 w1 ⟨rfl, hb1⟩; have H1 := Lib.hid hb1; clear hb1)
    go_ret
    exact ⟨rfl, H1.out⟩
  · have hI : ¬ (300 : Int) < (n : Int) := by omega
    have hn6 : n ≤ 1000000 := by omega
    go_enter Try.func4, Try.ntmps4
    go_wp2_with (go_at_call 10; (with_reducible refine (awake _).mono ?_); rintro e1 w1 ⟨rfl, hb1⟩; have H1 := Lib.hid hb1; clear hb1)
    go_loopg [14] n (fun g v wr => ∃ k : Nat, g + k = n ∧ v = .int .i64 k ∧ Below w.heap.size w wr)
    case atStart => exact ⟨0, by omega, rfl, H1.out⟩
    case round =>
      clear H1
      obtain ⟨k, hgk, rfl, hb⟩ := hrel
      have HB := Lib.hid hb
      have hnw := HX.out.2.below hb
      clear hb
      by_cases hk : k < n
      · obtain ⟨e, he⟩ : ∃ e, es[k]? = some e := ⟨_, List.getElem?_eq_getElem (by rw [HX.out.1]; exact hk)⟩
        obtain ⟨b, off, rfl, c0, c1, c2, c3⟩ := nd_at hnw.1 he
        clear he hnw
        by_cases h5 : 5000 < e.body.length
        · have h5I : (5000 : Int) < (e.body.length : Int) := by omega
          as_aux_lemma =>
            go_wp2
            go_ret
            exact ⟨rfl, HB.out.alloc HB.out.size _⟩
        · have h5I : ¬ (5000 : Int) < (e.body.length : Int) := by omega
          as_aux_lemma =>
            go_wp2
            go_roundg (gk - 1)
            case measure => omega
            case rel => exact ⟨k + 1, by omega, by go_num, HB.out.alloc HB.out.size _⟩
      · by_cases hv : Valid es
        · have HV := Lib.hid (And.intro hv (And.intro hnw (And.intro hv.body (show (es.map Nd.pl).length ≤ 256 by rw [List.length_map]; exact hv.1))))
          clear hv hnw
          as_aux_lemma =>
            go_wp2_with fail
            (with_reducible refine (load_ok ao n c es _ HX.out.1 HV.out.2.1 HV.out.1).mono ?_)
            rintro r w2 ⟨p, F, rfl, hb2, ht, hF⟩
            have H2 := Lib.hid (And.intro hb2 ht)
            clear hb2 ht hF
            go_wp2_with fail
            (with_reducible refine (loads_ok ao n c es _ HX.out.1 (HV.out.2.1.below H2.out.1) HV.out.1).mono ?_)
            rintro r w3 ⟨rfl, hb3⟩
            have H3 := Lib.hid (And.intro (H2.out.1.trans (hb3.mono H2.out.1.size)) (H2.out.2.keep (Chg.of_below hb3 (fun _ => False)) (fun _ _ h => h)))
            clear hb3
            go_wp2_with fail
            (with_reducible refine (list_all p (es.map Nd.pl) F _ H3.out.2 HV.out.2.2.2 HV.out.2.2.1).mono ?_)
            rintro r w4 ⟨xo, xc, fs, rfl, hb4, hf4, hm4⟩
            rw [List.length_map, HX.out.1]
            have hb4 := H3.out.1.trans (hb4.mono H3.out.1.size)
            have H4 := Lib.hid (And.intro hb4 (And.intro hf4 (And.intro hm4 (show fs.length = n by have := congrArg List.length hm4; simp at this; rw [this]; exact HX.out.1))))
            clear hb4 hf4 hm4
            go_wp2_with fail
            (with_reducible refine (same_nodes xo ao n xc c fs es _ H4.out.2.1 (HV.out.2.1.below H4.out.1) H4.out.2.2.2 H4.out.2.2.1 hn6).mono ?_)
            rintro r w5 ⟨rfl, hb5⟩
            have H5 := Lib.hid (H4.out.1.trans (hb5.mono H4.out.1.size))
            clear hb5
            go_wp2
            go_ret
            exact ⟨rfl, HB.out.trans (H5.out.mono HB.out.size)⟩
        · have HV := Lib.hid (And.intro hv hnw)
          clear hv hnw
          as_aux_lemma =>
            go_wp2_with fail
            (with_reducible refine (load_false ao n c es _ HX.out.1 HV.out.2 hn6 HV.out.1).mono ?_)
            rintro r w2 ⟨rfl, hb2⟩
            have H2 := Lib.hid hb2
            clear hb2
            go_wp2_with fail
            (with_reducible refine (loads_false ao n c es _ HX.out.1 (HV.out.2.below H2.out) hn6 HV.out.1).mono ?_)
            rintro r w3 ⟨rfl, hb3⟩
            have H3 := Lib.hid (H2.out.trans (hb3.mono H2.out.size))
            clear hb3
            go_wp2
            go_ret
            exact ⟨rfl, HB.out.trans (H3.out.mono HB.out.size)⟩
def NdIs (w : World) (e : Nd) (cs : List Value) : Prop := cs = e.cells ∧ Bts w e.vo e.body
theorem nd_rd {w : World} {cs : List Value} (h : Rd Try.prog w 32 cs) : ∃ e, NdIs w e cs := by
  have hu := Try.underlying32
  obtain ⟨c0, c1, c2, c3, rfl⟩ := list4 ((h.struct hu).1.trans (by kernel_rfl))
  obtain ⟨key, e1, h1⟩ := (h.field hu 0 rfl (n := 1) (by kernel_rfl)).string Try.underlying9
  obtain ⟨vo, bs, c, e2, h2, h2', _, hb⟩ := (h.field hu 1 rfl (n := 1) (by kernel_rfl)).bytes Try.underlying27 Try.underlying5 (by kernel_rfl)
  obtain ⟨a, e3, h3⟩ := (h.field hu 2 rfl (n := 1) (by kernel_rfl)).u64 Try.underlying26
  obtain ⟨b, e4, h4⟩ := (h.field hu 3 rfl (n := 1) (by kernel_rfl)).u64 Try.underlying26
  simp at e1 e2 e3 e4
  subst e1 e2 e3 e4
  exact ⟨⟨key, bs, a, b, vo, c⟩, rfl, hb⟩
theorem nodes_of {w : World} {ao : Option Addr} {l : List Nd} (h : RowOf w ao 4 (NdIs w) l) : NodesAt w ao l := by
  refine ⟨fun hne => ?_, fun e he => ?_⟩
  · have h0 : 0 < l.length := by cases l with | nil => exact absurd rfl hne | cons => simp
    obtain ⟨b, off, rfl, h1⟩ := h h0
    refine ⟨b, off, rfl, fun i v hv => ?_⟩
    have hi := (List.getElem?_eq_some_iff.1 hv).1
    rw [fl_len el_e] at hi
    have hq : i / 4 < l.length := by omega
    obtain ⟨cs, hcs, ⟨rfl, _⟩, hc⟩ := h1 (i / 4) hq
    have hfl := fl_get el_e (List.getElem?_eq_getElem hq) (show i % 4 < 4 by omega)
    rw [show i / 4 * 4 + i % 4 = i by omega, hv] at hfl
    have := hc (i % 4) v hfl.symm
    rwa [show off + i / 4 * 4 + i % 4 = off + i by omega] at this
  · obtain ⟨i, hi, rfl⟩ := List.getElem_of_mem he
    obtain ⟨b, off, rfl, h1⟩ := h (by omega)
    obtain ⟨_, _, ⟨_, hb⟩, _⟩ := h1 i hi
    exact hb
theorem treeLoads_in (W : World) (base : Nat) (v0 : Value) (k0 : Value.okWide Try.prog W .any base 36 v0) (r0 : Rd Try.prog W 36 v0.cells.toList) :
    Calls Try.prog 4 #[v0] W fun e w' => e = .returned (.bool true) ∧ Below W.heap.size W w' := by
  obtain ⟨ao, es, c, rfl, h1, h2, h3⟩ := in_slice Try.underlying36 (size := 4) (by kernel_rfl) (by decide) (NdIs W) (fun es h => nd_rd h) k0 r0
  exact treeLoads_any ao _ c es W rfl (nodes_of h1) (Nat.le_trans h2 h3)
end Go.Proofs.Ytebhbfjnobcckaa
