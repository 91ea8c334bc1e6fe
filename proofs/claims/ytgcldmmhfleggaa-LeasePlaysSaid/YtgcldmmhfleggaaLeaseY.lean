/-
  LAYER 7: the document's book: Renew, Expire.
-/
import Derived.Test.YtgcldmmhfleggaaLeaseX
import Derived.Test.YtgcldmmhfleggaaLeaseD
namespace Go.Proofs.Ytgcldmmhfleggaa
open Go Go.RowKit

theorem snext {es : List Sess} {k : Nat} {e : Sess} (h : es[k]? = some e) : es.take k ++ [e] = es.take (k + 1) := by rw [List.take_add_one, h]; rfl
theorem set_same {l : List Sess} {i : Nat} {e : Sess} (h : l[i]? = some e) : l.set i e = l := by
  obtain ⟨hi, he⟩ := List.getElem?_eq_some_iff.1 h
  rw [← he, List.set_getElem_self]
/-- A list made anew, and laid into the book. -/
theorem rend {w wa w4 : World} {p last' n' c' : Nat} {yo : Option Addr} {l' : List Sess} {F : List Nat} {v : Value} (hpF : p ∈ F) (hC : Chg (· ∈ F) w wa) (hp : w4.heap[p]? = some (.cells #[.int .u64 (last' : Int), v] 68 (0, 0))) (hb : Below wa.heap.size wa w4)
    (ho : Own w4 3 yo n' c' (l'.flatMap Sess.cells)) (hyo : ∀ a, yo = some a → w.heap.size ≤ a.block) (hpl : p < w.heap.size) : RWrote w (w4.setCell ⟨p, 1, none⟩ (.slice yo n' c')) p last' l' F := by
  have hpy : p ∉ blk yo := by
    intro h
    obtain ⟨a, ha, e⟩ := mem_blk.1 h
    have := hyo a ha
    omega
  refine ⟨p :: blk yo, ⟨yo, n', c', heap_set hp 1 _, ho.keep (Chg.one w4 p 1 _) (fun a ha e => hpy (mem_blk.2 ⟨a, ha, e⟩)), hpy, rfl⟩, (hC.trans (Chg.of_below hb (· ∈ F)) (fun _ _ h => h)).set hpF 1 _, ?_⟩
  intro k hk
  rcases List.mem_cons.1 hk with rfl | hk
  · exact .inl hpF
  · obtain ⟨a, ha, rfl⟩ := mem_blk.1 hk
    exact .inr (hyo a ha)
set_option maxHeartbeats 1000000 in
set_option maxRecDepth 100000 in
theorem rrenew_any (p last id now : Nat) (l : List Sess) (F : List Nat) (w : World) (h : RBookAt w p last l F) (hl : l.length ≤ 1000000) (hnow : now < 18446744073709551616) (hlf : ∀ e ∈ l, e.life < 18446744073709551616) :
    Calls Try.prog 19 #[.pointer (some ⟨p, 0, none⟩), .int .u64 (id : Int), .int .u64 (now : Int)] w fun e w' => e = .returned (.int .i64 (renewL l id now).2) ∧ RWrote w w' p last (renewL l id now).1 F := by
  rcases who l id with hno | ⟨i, e, he, hid, hno⟩
  · have HF := Lib.hid (rat_none p last id l F w h hl hno)
    have HL := Lib.hid (And.intro (renewL_none (now := now) hno) h)
    clear h hno
    go_enter Try.func19, Try.ntmps19
    go_wp2_with (go_at_call 31; (with_reducible refine HF.out.mono ?_); rintro r w1 ⟨rfl, rfl⟩)
    go_ret
    rw [HL.out.1]
    exact ⟨rfl, RWrote.same HL.out.2 (Below.refl _ _)⟩
  · have HF := Lib.hid (rat_some p last id i e l F w h hl he hid hno)
    have hrl := renewL_some (now := now) he hid hno
    have HB := Lib.hid h
    have hlife := hlf e (List.mem_of_getElem? he)
    obtain ⟨lo, n, cap, h1, h2, h3, hF⟩ := h
    have hn := fl_own_len el_e h2
    have hn6 : n ≤ 1000000 := by omega
    have hi : (i : Int) < (n : Int) := by have := (List.getElem?_eq_some_iff.1 he).1; omega
    obtain ⟨b, off, rfl, hcs⟩ := el_at h2 he
    obtain ⟨c0, c1, c2, _⟩ := hcs _ _ _ rfl
    obtain ⟨z0, z1, z2⟩ := cells2 h1
    have HX := Lib.hid (And.intro h1 (And.intro h2 (And.intro he (And.intro h3 (And.intro hF hn)))))
    have hpl := heap_lt h1
    obtain ⟨x0, x1, x2⟩ := e
    dsimp only at hlife hid hrl c0 c1 c2
    clear h1 h2 h3 hF he hid hno hlf hcs
    by_cases hexp : x1 ≤ now
    · rw [if_pos hexp] at hrl
      have HL := Lib.hid hrl
      clear hrl
      go_enter Try.func19, Try.ntmps19
      go_wp2_with (go_at_call 31; (with_reducible refine HF.out.mono ?_); rintro r w1 ⟨rfl, rfl⟩)
      go_ret
      rw [HL.out]
      exact ⟨rfl, RWrote.same HB.out (Below.refl _ _)⟩
    · rw [if_neg hexp] at hrl
      have HL := Lib.hid hrl
      have hx : ¬ (x1 : Int) ≤ (now : Int) := by omega
      have HS := Lib.hid (fun w => rsum_any now x2 w hnow hlife)
      have hpn : ∀ w' : World, Below w.heap.size w w' → w'.heap[p]? = some (.cells #[.int .u64 (last : Int), .slice (some ⟨b, off, none⟩) n cap] 68 (0, 0)) := fun w' hb => (Chg.of_below hb (fun _ => False)).heap HX.out.1 (fun h => h)
      have HP := Lib.hid hpn
      clear hrl hpn hexp
      by_cases hgt : x1 < endsOf now x2
      · have hg : (x1 : Int) < (endsOf now x2 : Int) := by omega
        have HM := Lib.hid (show max x1 (endsOf now x2) = endsOf now x2 by omega)
        clear hgt
        go_enter Try.func19, Try.ntmps19
        go_wp2_with (first
          | (go_at_call 31; (with_reducible refine HF.out.mono ?_); rintro r w1 ⟨rfl, rfl⟩)
          | (at_builtin; refine wpList_append' rfl (.tmp 25) (.tmp 29) el_s rfl rfl rfl (Own.alloc0 _ 3 _ _) HX.out.2.1.len ((HX.out.2.1.keep ((Chg.refl (fun _ => False) w).alloc _) (fun _ _ h => h)).row) (fl_one el_e l) (by unfold maxLen; omega) (by omega) ?_; intro xo xc w2 hx hch _ hx2; simp only [Nat.zero_add, List.nil_append] at hx; obtain ⟨b2, off2, rfl, hcs⟩ := el_at hx HX.out.2.2.1; obtain ⟨d0, d1, d2, _⟩ := hcs _ _ _ rfl; have hb2 := chg_new (Below.refl _ _) hch; have hf2 := new_blk (Below.refl _ _) hx2; have hp2 := HP.out _ hb2; obtain ⟨y0, y1, y2⟩ := cells2 hp2; have hset := hx.set (i * 3 + 1) (.int .u64 (endsOf now x2 : Int)) (by omega); rw [set_ends l i _ _ HX.out.2.2.1, ← Nat.add_assoc] at hset; have hge := hf2 _ rfl; have hp3 := (Chg.one w2 b2 (off2 + i * 3 + 1) (.int .u64 (endsOf now x2 : Int))).heap hp2 (by simp at hge; omega); obtain ⟨v0, v1, v2⟩ := cells2 hp3; have H2 := Lib.hid (And.intro hset (And.intro (hb2.trans ((Chg.one w2 b2 (off2 + i * 3 + 1) (.int .u64 (endsOf now x2 : Int))).below hb2.size (fun k h => by rw [h]; exact hge))) (And.intro hf2 hp3))); clear hx hch hx2 hcs hb2 hf2 hp2 hset hge hp3)
          | (go_at_call 30; (with_reducible refine (HS.out _).mono ?_); rintro r w1 ⟨rfl, rfl⟩))
        go_ret
        rw [HL.out, HM.out]
        exact ⟨rfl, rend (by rw [HX.out.2.2.2.2.1]; simp) (Chg.refl _ w) H2.out.2.2.2 H2.out.2.1 H2.out.1 H2.out.2.2.1 hpl⟩
      · have hg : ¬ (x1 : Int) < (endsOf now x2 : Int) := by omega
        have HM := Lib.hid (show max x1 (endsOf now x2) = x1 by omega)
        clear hgt
        go_enter Try.func19, Try.ntmps19
        go_wp2_with (first
          | (go_at_call 31; (with_reducible refine HF.out.mono ?_); rintro r w1 ⟨rfl, rfl⟩)
          | (at_builtin; refine wpList_append' rfl (.tmp 25) (.tmp 29) el_s rfl rfl rfl (Own.alloc0 _ 3 _ _) HX.out.2.1.len ((HX.out.2.1.keep ((Chg.refl (fun _ => False) w).alloc _) (fun _ _ h => h)).row) (fl_one el_e l) (by unfold maxLen; omega) (by omega) ?_; intro xo xc w2 hx hch _ hx2; simp only [Nat.zero_add, List.nil_append] at hx; obtain ⟨b2, off2, rfl, hcs⟩ := el_at hx HX.out.2.2.1; obtain ⟨d0, d1, d2, _⟩ := hcs _ _ _ rfl; have hb2 := chg_new (Below.refl _ _) hch; have hf2 := new_blk (Below.refl _ _) hx2; have hp2 := HP.out _ hb2; obtain ⟨y0, y1, y2⟩ := cells2 hp2; have H2 := Lib.hid (And.intro hx (And.intro hb2 (And.intro hf2 hp2))); clear hx hch hx2 hcs hb2 hf2 hp2)
          | (go_at_call 30; (with_reducible refine (HS.out _).mono ?_); rintro r w1 ⟨rfl, rfl⟩))
        go_ret
        rw [HL.out, HM.out, set_same HX.out.2.2.1]
        exact ⟨rfl, rend (by rw [HX.out.2.2.2.2.1]; simp) (Chg.refl _ w) H2.out.2.2.2 H2.out.2.1 H2.out.1 H2.out.2.2.1 hpl⟩
end Go.Proofs.Ytgcldmmhfleggaa
