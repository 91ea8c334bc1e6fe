/-
  LAYER 8: the document's book inside its State (printed by m7rb.py): at, Live, Renew, Expire, Close.
-/
import Derived.Test.YtackmgmaippajaaGreatFLb
import Derived.Deep.RegionHeld3
namespace Go.Proofs.YtackmgmaippajaaGreat.Ls
open Go Go.RowKit

/-- The document's book: the cells 2 and 3 of the block p, whose cells are cs. -/
structure BkC (w : World) (p : Nat) (cs : Array Value) (t : TypeId) (last : Nat) (v : Value) : Prop where
  heap : w.heap[p]? = some (.cells cs t (0, 0))
  at2 : cs[2]? = some (.int .u64 (last : Int))
  at3 : cs[3]? = some v
theorem cellsB {w : World} {p last : Nat} {cs : Array Value} {t : TypeId} {v : Value} (h : BkC w p cs t last v) : w.cell? ⟨p, 2, none⟩ = some (.int .u64 (last : Int)) ∧ w.cell? ⟨p, 3, none⟩ = some v ∧ ∀ i, w.frozen? ⟨p, i, none⟩ = false :=
  ⟨(heap_cell h.heap 2).trans h.at2, (heap_cell h.heap 3).trans h.at3, fun i => heap_frozen h.heap i⟩
theorem _root_.Go.Proofs.YtackmgmaippajaaGreat.Chg.bk {S : Nat → Prop} {w w' : World} {p last : Nat} {cs : Array Value} {t : TypeId} {v : Value} (hc : Chg S w w') (h : BkC w p cs t last v) (hS : ¬ S p) : BkC w' p cs t last v := ⟨hc.heap h.heap hS, h.at2, h.at3⟩
theorem set_self {cs : Array Value} {i : Nat} {v : Value} (h : cs[i]? = some v) : cs.setIfInBounds i v = cs := by
  apply Array.ext_getElem?
  intro j
  rw [Array.getElem?_setIfInBounds]
  by_cases hij : i = j
  · subst hij
    have hi := (Array.getElem?_eq_some_iff.1 h).1
    rw [if_pos rfl, if_pos hi, h]
  · rw [if_neg hij]
def RBookAt (w : World) (p : Nat) (cs : Array Value) (t : TypeId) (last : Nat) (l : List Sess) (F : List Nat) : Prop :=
  ∃ lo n cap, BkC w p cs t last (.slice lo n cap) ∧ Own w 3 lo n cap (l.flatMap Sess.cells) ∧ p ∉ blk lo ∧ F = p :: blk lo
theorem RBookAt.keep {w w' : World} {p last : Nat} {cs : Array Value} {t : TypeId} {l : List Sess} {F : List Nat} (h : RBookAt w p cs t last l F) {S : Nat → Prop} (hc : Chg S w w') (hS : ∀ k ∈ F, ¬ S k) : RBookAt w' p cs t last l F := by
  obtain ⟨lo, n, cap, h1, h2, h3, rfl⟩ := h
  exact ⟨lo, n, cap, hc.bk h1 (hS p (by simp)), h2.keep hc (fun a ha => hS _ (List.mem_cons_of_mem _ (mem_blk.2 ⟨a, ha, rfl⟩))), h3, rfl⟩
theorem RBookAt.lt {w : World} {p last : Nat} {cs : Array Value} {t : TypeId} {l : List Sess} {F : List Nat} (h : RBookAt w p cs t last l F) : ∀ k ∈ F, k < w.heap.size := by
  obtain ⟨lo, n, cap, h1, h2, h3, rfl⟩ := h
  intro k hk
  rcases List.mem_cons.1 hk with rfl | hk
  · exact heap_lt h1.1
  · obtain ⟨a, ha, rfl⟩ := mem_blk.1 hk
    exact (h2.at_ a ha).2.1
/-- The book's cells, and they alone, are written. -/
def RWrote (w w' : World) (p : Nat) (cs : Array Value) (t : TypeId) (last : Nat) (l : List Sess) (F : List Nat) : Prop :=
  ∃ F' v, RBookAt w' p ((cs.setIfInBounds 2 (.int .u64 (last : Int))).setIfInBounds 3 v) t last l F' ∧ Chg (· = p) w w' ∧ ∀ k ∈ F', k ∈ F ∨ w.heap.size ≤ k
theorem RWrote.same {w w' : World} {p last : Nat} {cs : Array Value} {t : TypeId} {l : List Sess} {F : List Nat} (h : RBookAt w p cs t last l F) (hb : Below w.heap.size w w') : RWrote w w' p cs t last l F := by
  have h' := h.keep (Chg.of_below hb (fun _ => False)) (fun _ _ h => h)
  obtain ⟨lo, n, cap, h1, -⟩ := h
  refine ⟨F, .slice lo n cap, ?_, Chg.of_below hb _, fun _ h => .inl h⟩
  rw [set_self h1.at2, set_self h1.at3]
  exact h'

theorem rsum_any (now life : Nat) (w : World) (h1 : now < 18446744073709551616) (h2 : life < 18446744073709551616) :
    Calls Tryz.prog 57 #[.int .u64 (now : Int), .int .u64 (life : Int)] w fun e w' => e = .returned (.int .u64 (endsOf now life : Int)) ∧ w = w' := by
  by_cases h : 18446744073709551615 - life < now
  · have e1 : IntKind.u64.wrap ((now : Int) + (life : Int)) = (now : Int) + (life : Int) - 18446744073709551616 := by rw [IntKind.wrap_u64]; omega
    have e2 : (now : Int) + (life : Int) - 18446744073709551616 < (now : Int) := by omega
    have HE := Lib.hid (show endsOf now life = 18446744073709551615 from if_pos h)
    clear h
    go_enter Tryz.func57, Tryz.ntmps57
    go_wp2
    go_ret
    exact ⟨by rw [HE.out]; rfl, rfl⟩
  · have e1 := IntWalk.u64_in ((now : Int) + (life : Int)) (by omega)
    have e2 : ¬ (now : Int) + (life : Int) < (now : Int) := by omega
    have HE := Lib.hid (show endsOf now life = now + life from if_neg h)
    clear h
    go_enter Tryz.func57, Tryz.ntmps57
    go_wp2
    go_ret
    exact ⟨by rw [HE.out]; push_cast; rfl, rfl⟩
theorem rat_none (cs : Array Value) (t : TypeId) (p last id : Nat) (l : List Sess) (F : List Nat) (w : World) (h : RBookAt w p cs t last l F) (hl : l.length ≤ 1000000) (hno : ∀ e ∈ l, e.id ≠ id) :
    Calls Tryz.prog 56 #[.pointer (some ⟨p, 2, none⟩), .int .u64 (id : Int)] w fun e w' => e = .returned (.int .i64 (-1)) ∧ w = w' := by
  obtain ⟨lo, n, cap, h1, h2, h3, rfl⟩ := h
  have hn := fl_own_len el_e h2
  obtain ⟨z0, z1, z2⟩ := cellsB h1
  have HX := Lib.hid (And.intro h2 (And.intro hno hn))
  have hn6 : n ≤ 1000000 := by omega
  clear h1 h2 h3 hno hn hl
  go_enter Tryz.func56, Tryz.ntmps56
  go_wp2
  go_loopg [5] n (fun g v wr => wr = w ∧ ∃ k : Nat, g + k = n ∧ v = .int .i64 k)
  case atStart => exact ⟨rfl, 0, by omega, rfl⟩
  case round =>
    obtain ⟨rfl, k, hgk, rfl⟩ := hrel
    by_cases hk : k < n
    · obtain ⟨e, he⟩ : ∃ e, l[k]? = some e := ⟨_, List.getElem?_eq_getElem (by rw [HX.out.2.2]; exact hk)⟩
      have hne := HX.out.2.1 e (List.mem_of_getElem? he)
      obtain ⟨b, off, rfl, hc⟩ := el_at HX.out.1 he
      obtain ⟨c0, c1, c2, _⟩ := hc _ _ _ rfl
      have hd : ((e.id : Int) == (id : Int)) = false := by simp; omega
      clear hc he hne
      go_wp2
      go_roundg (gk - 1)
      case measure => omega
      case rel => exact ⟨rfl, k + 1, by omega, by go_num⟩
    · go_wp2
      go_ret
      exact ⟨rfl, rfl⟩
theorem rat_some (cs : Array Value) (t : TypeId) (p last id i : Nat) (e : Sess) (l : List Sess) (F : List Nat) (w : World) (h : RBookAt w p cs t last l F) (hl : l.length ≤ 1000000) (he : l[i]? = some e) (hid : e.id = id) (hno : ∀ e ∈ l.take i, e.id ≠ id) :
    Calls Tryz.prog 56 #[.pointer (some ⟨p, 2, none⟩), .int .u64 (id : Int)] w fun e w' => e = .returned (.int .i64 (i : Int)) ∧ w = w' := by
  obtain ⟨lo, n, cap, h1, h2, h3, rfl⟩ := h
  have hn := fl_own_len el_e h2
  obtain ⟨z0, z1, z2⟩ := cellsB h1
  have hin : i < n := by rw [← hn]; exact (List.getElem?_eq_some_iff.1 he).1
  have HX := Lib.hid (And.intro h2 (And.intro hno (And.intro hn (And.intro he hid))))
  have hn6 : n ≤ 1000000 := by omega
  clear h1 h2 h3 hno hn hl he hid
  go_enter Tryz.func56, Tryz.ntmps56
  go_wp2
  go_loopg [5] i (fun g v wr => wr = w ∧ ∃ k : Nat, g + k = i ∧ v = .int .i64 k)
  case atStart => exact ⟨rfl, 0, by omega, rfl⟩
  case round =>
    obtain ⟨rfl, k, hgk, rfl⟩ := hrel
    by_cases hk : k < i
    · have hkn : k < n := by omega
      obtain ⟨e', he⟩ : ∃ e, l[k]? = some e := ⟨_, List.getElem?_eq_getElem (by rw [HX.out.2.2.1]; exact hkn)⟩
      have hne := HX.out.2.1 e' (List.mem_of_getElem? (show (l.take i)[k]? = some e' by rw [List.getElem?_take, if_pos hk]; exact he))
      obtain ⟨b, off, rfl, hc⟩ := el_at HX.out.1 he
      obtain ⟨c0, c1, c2, _⟩ := hc _ _ _ rfl
      have hd : ((e'.id : Int) == (id : Int)) = false := by simp; omega
      clear hc he hne
      go_wp2
      go_roundg (gk - 1)
      case measure => omega
      case rel => exact ⟨rfl, k + 1, by omega, by go_num⟩
    · obtain rfl : k = i := by omega
      obtain ⟨b, off, rfl, hc⟩ := el_at HX.out.1 HX.out.2.2.2.1
      obtain ⟨c0, c1, c2, _⟩ := hc _ _ _ rfl
      have hd : ((e.id : Int) == (id : Int)) = true := by rw [HX.out.2.2.2.2]; simp
      clear hc
      go_wp2
      go_ret
      exact ⟨rfl, rfl⟩
theorem rlive_any (cs : Array Value) (t : TypeId) (p last id now : Nat) (l : List Sess) (F : List Nat) (w : World) (h : RBookAt w p cs t last l F) (hl : l.length ≤ 1000000) :
    Calls Tryz.prog 28 #[.pointer (some ⟨p, 2, none⟩), .int .u64 (id : Int), .int .u64 (now : Int)] w fun e w' => e = .returned (.bool (liveL l id now)) ∧ w = w' := by
  rcases who l id with hno | ⟨i, e, he, hid, hno⟩
  · have HF := Lib.hid (rat_none cs t p last id l F w h hl hno)
    have HL := Lib.hid (liveL_none (now := now) hno)
    clear h hno
    go_enter Tryz.func28, Tryz.ntmps28
    go_wp2_with (go_at_call 56; (with_reducible refine HF.out.mono ?_); rintro r w1 ⟨rfl, rfl⟩)
    go_ret
    exact ⟨by rw [HL.out]; rfl, rfl⟩
  · have HF := Lib.hid (rat_some cs t p last id i e l F w h hl he hid hno)
    have HL := Lib.hid (liveL_some (now := now) he hid hno)
    obtain ⟨lo, n, cap, h1, h2, h3, hF⟩ := h
    have hn := fl_own_len el_e h2
    have hi : (i : Int) < (n : Int) := by have := (List.getElem?_eq_some_iff.1 he).1; omega
    obtain ⟨b, off, rfl, hc⟩ := el_at h2 he
    obtain ⟨c0, c1, c2, _⟩ := hc _ _ _ rfl
    obtain ⟨z0, z1, z2⟩ := cellsB h1
    clear h1 h2 h3 hF he hid hno hc
    go_enter Tryz.func28, Tryz.ntmps28
    go_wp2_with (go_at_call 56; (with_reducible refine HF.out.mono ?_); rintro r w1 ⟨rfl, rfl⟩)
    go_ret
    exact ⟨by rw [HL.out]; rfl, rfl⟩


theorem snext {es : List Sess} {k : Nat} {e : Sess} (h : es[k]? = some e) : es.take k ++ [e] = es.take (k + 1) := by rw [List.take_add_one, h]; rfl
theorem set_same {l : List Sess} {i : Nat} {e : Sess} (h : l[i]? = some e) : l.set i e = l := by
  obtain ⟨hi, he⟩ := List.getElem?_eq_some_iff.1 h
  rw [← he, List.set_getElem_self]
/-- A list made anew, and laid into the book. -/
theorem rend {w wa w4 : World} {p last' n' c' : Nat} {cs : Array Value} {t : TypeId} {yo : Option Addr} {l' : List Sess} {F : List Nat} {v : Value} (hpF : p ∈ F) (hC : Chg (· = p) w wa) (hp : BkC w4 p (cs.setIfInBounds 2 (.int .u64 (last' : Int))) t last' v) (hb : Below wa.heap.size wa w4)
    (ho : Own w4 3 yo n' c' (l'.flatMap Sess.cells)) (hyo : ∀ a, yo = some a → w.heap.size ≤ a.block) (hpl : p < w.heap.size) : RWrote w (w4.setCell ⟨p, 3, none⟩ (.slice yo n' c')) p cs t last' l' F := by
  have hpy : p ∉ blk yo := by
    intro h
    obtain ⟨a, ha, e⟩ := mem_blk.1 h
    have := hyo a ha
    omega
  have h3 := (Array.getElem?_eq_some_iff.1 hp.at3).1
  refine ⟨p :: blk yo, .slice yo n' c', ⟨yo, n', c', ⟨heap_set hp.heap 3 _, ?_, by rw [Array.getElem?_setIfInBounds, if_pos rfl, if_pos h3]⟩, ho.keep (Chg.one w4 p 3 _) (fun a ha e => hpy (mem_blk.2 ⟨a, ha, e⟩)), hpy, rfl⟩, (hC.trans (Chg.of_below hb (· = p)) (fun _ _ h => h)).set rfl 3 _, ?_⟩
  · have := hp.at2
    simpa using this
  intro k hk
  rcases List.mem_cons.1 hk with rfl | hk
  · exact .inl hpF
  · obtain ⟨a, ha, rfl⟩ := mem_blk.1 hk
    exact .inr (hyo a ha)
theorem rend_same {w w4 : World} {p last n' c' : Nat} {cs : Array Value} {t : TypeId} {yo : Option Addr} {l' : List Sess} {F : List Nat} {v : Value} (hpF : p ∈ F) (hp : BkC w4 p cs t last v) (hb : Below w.heap.size w w4)
    (ho : Own w4 3 yo n' c' (l'.flatMap Sess.cells)) (hyo : ∀ a, yo = some a → w.heap.size ≤ a.block) (hpl : p < w.heap.size) : RWrote w (w4.setCell ⟨p, 3, none⟩ (.slice yo n' c')) p cs t last l' F :=
  rend hpF (Chg.refl _ w) (by rw [set_self hp.at2]; exact hp) hb ho hyo hpl
set_option maxHeartbeats 1000000 in
set_option maxRecDepth 100000 in
theorem rrenew_any (cs : Array Value) (t : TypeId) (p last id now : Nat) (l : List Sess) (F : List Nat) (w : World) (h : RBookAt w p cs t last l F) (hl : l.length ≤ 1000000) (hnow : now < 18446744073709551616) (hlf : ∀ e ∈ l, e.life < 18446744073709551616) :
    Calls Tryz.prog 32 #[.pointer (some ⟨p, 2, none⟩), .int .u64 (id : Int), .int .u64 (now : Int)] w fun e w' => e = .returned (.int .i64 (renewL l id now).2) ∧ RWrote w w' p cs t last (renewL l id now).1 F := by
  rcases who l id with hno | ⟨i, e, he, hid, hno⟩
  · have HF := Lib.hid (rat_none cs t p last id l F w h hl hno)
    have HL := Lib.hid (And.intro (renewL_none (now := now) hno) h)
    clear h hno
    go_enter Tryz.func32, Tryz.ntmps32
    go_wp2_with (go_at_call 56; (with_reducible refine HF.out.mono ?_); rintro r w1 ⟨rfl, rfl⟩)
    go_ret
    rw [HL.out.1]
    exact ⟨rfl, RWrote.same HL.out.2 (Below.refl _ _)⟩
  · have HF := Lib.hid (rat_some cs t p last id i e l F w h hl he hid hno)
    have hrl := renewL_some (now := now) he hid hno
    have HB := Lib.hid h
    have hlife := hlf e (List.mem_of_getElem? he)
    obtain ⟨lo, n, cap, h1, h2, h3, hF⟩ := h
    have hn := fl_own_len el_e h2
    have hn6 : n ≤ 1000000 := by omega
    have hi : (i : Int) < (n : Int) := by have := (List.getElem?_eq_some_iff.1 he).1; omega
    obtain ⟨b, off, rfl, hcs⟩ := el_at h2 he
    obtain ⟨c0, c1, c2, _⟩ := hcs _ _ _ rfl
    obtain ⟨z0, z1, z2⟩ := cellsB h1
    have HX := Lib.hid (And.intro h1 (And.intro h2 (And.intro he (And.intro h3 (And.intro hF hn)))))
    have hpl := heap_lt h1.1
    obtain ⟨x0, x1, x2⟩ := e
    dsimp only at hlife hid hrl c0 c1 c2
    clear h1 h2 h3 hF he hid hno hlf hcs
    by_cases hexp : x1 ≤ now
    · rw [if_pos hexp] at hrl
      have HL := Lib.hid hrl
      clear hrl
      go_enter Tryz.func32, Tryz.ntmps32
      go_wp2_with (go_at_call 56; (with_reducible refine HF.out.mono ?_); rintro r w1 ⟨rfl, rfl⟩)
      go_ret
      rw [HL.out]
      exact ⟨rfl, RWrote.same HB.out (Below.refl _ _)⟩
    · rw [if_neg hexp] at hrl
      have HL := Lib.hid hrl
      have hx : ¬ (x1 : Int) ≤ (now : Int) := by omega
      have HS := Lib.hid (fun w => rsum_any now x2 w hnow hlife)
      have hpn : ∀ w' : World, Below w.heap.size w w' → BkC w' p cs t last (.slice (some ⟨b, off, none⟩) n cap) := fun w' hb => (Chg.of_below hb (fun _ => False)).bk HX.out.1 (fun h => h)
      have HP := Lib.hid hpn
      clear hrl hpn hexp
      by_cases hgt : x1 < endsOf now x2
      · have hg : (x1 : Int) < (endsOf now x2 : Int) := by omega
        have HM := Lib.hid (show max x1 (endsOf now x2) = endsOf now x2 by omega)
        clear hgt
        go_enter Tryz.func32, Tryz.ntmps32
        go_wp2_with (first
          | (go_at_call 56; (with_reducible refine HF.out.mono ?_); rintro r w1 ⟨rfl, rfl⟩)
          | (at_builtin; refine wpList_append' rfl (.tmp 25) (.tmp 29) el_s rfl rfl rfl (Own.alloc0 _ 3 _ _) HX.out.2.1.len ((HX.out.2.1.keep ((Chg.refl (fun _ => False) w).alloc _) (fun _ _ h => h)).row) (fl_one el_e l) (by unfold maxLen; omega) (by omega) ?_; intro xo xc w2 hx hch _ hx2; simp only [Nat.zero_add, List.nil_append] at hx; obtain ⟨b2, off2, rfl, hcs⟩ := el_at hx HX.out.2.2.1; obtain ⟨d0, d1, d2, _⟩ := hcs _ _ _ rfl; have hb2 := chg_new (Below.refl _ _) hch; have hf2 := new_blk (Below.refl _ _) hx2; have hp2 := HP.out _ hb2; obtain ⟨y0, y1, y2⟩ := cellsB hp2; have hset := hx.set (i * 3 + 1) (.int .u64 (endsOf now x2 : Int)) (by omega); rw [set_ends l i _ _ HX.out.2.2.1, ← Nat.add_assoc] at hset; have hge := hf2 _ rfl; have hp3 := (Chg.one w2 b2 (off2 + i * 3 + 1) (.int .u64 (endsOf now x2 : Int))).bk hp2 (by simp at hge; omega); obtain ⟨v0, v1, v2⟩ := cellsB hp3; have H2 := Lib.hid (And.intro hset (And.intro (hb2.trans ((Chg.one w2 b2 (off2 + i * 3 + 1) (.int .u64 (endsOf now x2 : Int))).below hb2.size (fun k h => by rw [h]; exact hge))) (And.intro hf2 hp3))); clear hx hch hx2 hcs hb2 hf2 hp2 hset hge hp3)
          | (go_at_call 57; (with_reducible refine (HS.out _).mono ?_); rintro r w1 ⟨rfl, rfl⟩))
        go_ret
        rw [HL.out, HM.out]
        exact ⟨rfl, rend_same (by rw [HX.out.2.2.2.2.1]; simp) H2.out.2.2.2 H2.out.2.1 H2.out.1 H2.out.2.2.1 hpl⟩
      · have hg : ¬ (x1 : Int) < (endsOf now x2 : Int) := by omega
        have HM := Lib.hid (show max x1 (endsOf now x2) = x1 by omega)
        clear hgt
        go_enter Tryz.func32, Tryz.ntmps32
        go_wp2_with (first
          | (go_at_call 56; (with_reducible refine HF.out.mono ?_); rintro r w1 ⟨rfl, rfl⟩)
          | (at_builtin; refine wpList_append' rfl (.tmp 25) (.tmp 29) el_s rfl rfl rfl (Own.alloc0 _ 3 _ _) HX.out.2.1.len ((HX.out.2.1.keep ((Chg.refl (fun _ => False) w).alloc _) (fun _ _ h => h)).row) (fl_one el_e l) (by unfold maxLen; omega) (by omega) ?_; intro xo xc w2 hx hch _ hx2; simp only [Nat.zero_add, List.nil_append] at hx; obtain ⟨b2, off2, rfl, hcs⟩ := el_at hx HX.out.2.2.1; obtain ⟨d0, d1, d2, _⟩ := hcs _ _ _ rfl; have hb2 := chg_new (Below.refl _ _) hch; have hf2 := new_blk (Below.refl _ _) hx2; have hp2 := HP.out _ hb2; obtain ⟨y0, y1, y2⟩ := cellsB hp2; have H2 := Lib.hid (And.intro hx (And.intro hb2 (And.intro hf2 hp2))); clear hx hch hx2 hcs hb2 hf2 hp2)
          | (go_at_call 57; (with_reducible refine (HS.out _).mono ?_); rintro r w1 ⟨rfl, rfl⟩))
        go_ret
        rw [HL.out, HM.out, set_same HX.out.2.2.1]
        exact ⟨rfl, rend_same (by rw [HX.out.2.2.2.2.1]; simp) H2.out.2.2.2 H2.out.2.1 H2.out.1 H2.out.2.2.1 hpl⟩


/-- Where the document's Expire stands behind k sessions. -/
structure ExpRel (w wr : World) (l : List Sess) (now k : Nat) (oo : Option Addr) (on oc : Nat) (ko : Option Addr) (kn kc : Nat) : Prop where
  below : Below w.heap.size w wr
  out : Own wr 1 oo on oc ((expired (l.take k) now).map idCell)
  kept : Own wr 3 ko kn kc ((stays (l.take k) now).flatMap Sess.cells)
  onew : ∀ a, oo = some a → w.heap.size ≤ a.block
  knew : ∀ a, ko = some a → w.heap.size ≤ a.block
  two : ∀ a b, oo = some a → ko = some b → a.block ≠ b.block
theorem exp_out {w wr w2 : World} {l : List Sess} {now k : Nat} {oo : Option Addr} {on oc : Nat} {ko : Option Addr} {kn kc : Nat} (h : ExpRel w wr l now k oo on oc ko kn kc) {e : Sess} (he : l[k]? = some e) (hx : e.ends ≤ now) {C : Obj} {xo : Option Addr} {xc : Nat}
    (hx1 : Own w2 1 xo (on + 1) xc ((expired (l.take k) now).map idCell ++ [idCell e.id])) (hch : Chg (fun j => ∃ a, oo = some a ∧ a.block = j) (wr.alloc C) w2) (hx2 : ∀ a', xo = some a' → oo = some a' ∨ (wr.alloc C).heap.size ≤ a'.block) :
    ExpRel w w2 l now (k + 1) xo (on + 1) xc ko kn kc := by
  have hA := h.below.alloc h.below.size C
  have hkA : Own (wr.alloc C) 3 ko kn kc ((stays (l.take k) now).flatMap Sess.cells) := h.kept.keep ((Chg.refl (fun _ => False) wr).alloc C) (fun _ _ h => h)
  refine ⟨hA.trans (hch.below hA.size (fun j ⟨a, ha, e⟩ => e ▸ h.onew a ha)), ?_, ?_, fun a ha => ?_, h.knew, fun a b ha hb => ?_⟩
  · rw [← snext he, expired_snoc, if_pos hx, List.map_append]; exact hx1
  · rw [← snext he, stays_snoc, if_pos hx]
    exact hkA.keep hch (fun b hb ⟨a, ha, e⟩ => h.two a b ha hb e)
  · rcases hx2 a ha with h' | h'
    · exact h.onew a h'
    · exact Nat.le_trans hA.size h'
  · rcases hx2 a ha with h' | h'
    · exact h.two a b h' hb
    · have := (h.kept.at_ b hb).2.1
      rw [size_alloc] at h'
      omega
theorem exp_keep {w wr w2 : World} {l : List Sess} {now k : Nat} {oo : Option Addr} {on oc : Nat} {ko : Option Addr} {kn kc : Nat} (h : ExpRel w wr l now k oo on oc ko kn kc) {e : Sess} (he : l[k]? = some e) (hx : ¬ e.ends ≤ now) {C : Obj} {xo : Option Addr} {xc : Nat}
    (hx1 : Own w2 3 xo (kn + 1) xc ((stays (l.take k) now).flatMap Sess.cells ++ e.cells)) (hch : Chg (fun j => ∃ a, ko = some a ∧ a.block = j) (wr.alloc C) w2) (hx2 : ∀ a', xo = some a' → ko = some a' ∨ (wr.alloc C).heap.size ≤ a'.block) :
    ExpRel w w2 l now (k + 1) oo on oc xo (kn + 1) xc := by
  have hA := h.below.alloc h.below.size C
  have hoA : Own (wr.alloc C) 1 oo on oc ((expired (l.take k) now).map idCell) := h.out.keep ((Chg.refl (fun _ => False) wr).alloc C) (fun _ _ h => h)
  refine ⟨hA.trans (hch.below hA.size (fun j ⟨a, ha, e⟩ => e ▸ h.knew a ha)), ?_, ?_, h.onew, fun a ha => ?_, fun a b ha hb => ?_⟩
  · rw [← snext he, expired_snoc, if_neg hx]
    exact hoA.keep hch (fun a ha ⟨b, hb, e⟩ => h.two a b ha hb e.symm)
  · rw [← snext he, stays_snoc, if_neg hx, List.flatMap_append, List.flatMap_cons, List.flatMap_nil, List.append_nil]; exact hx1
  · rcases hx2 a ha with h' | h'
    · exact h.knew a h'
    · exact Nat.le_trans hA.size h'
  · rcases hx2 b hb with h' | h'
    · exact h.two a b ha h'
    · have := (h.out.at_ a ha).2.1
      rw [size_alloc] at h'
      omega
set_option maxHeartbeats 1000000 in
set_option maxRecDepth 100000 in
theorem rexpire_any (cs : Array Value) (t : TypeId) (p last now : Nat) (l : List Sess) (F : List Nat) (w : World) (h : RBookAt w p cs t last l F) (hl : l.length ≤ 1000000) :
    Calls Tryz.prog 35 #[.pointer (some ⟨p, 2, none⟩), .int .u64 (now : Int)] w fun e w' => ∃ uo m uc, e = .returned (.slice uo m uc) ∧ Own w' 1 uo m uc ((expired l now).map idCell) ∧ (∀ a, uo = some a → w.heap.size ≤ a.block) ∧ RWrote w w' p cs t last (stays l now) F := by
  obtain ⟨lo, n, cap, h1, h2, h3, hF⟩ := h
  have hn := fl_own_len el_e h2
  have hn6 : n ≤ 1000000 := by omega
  have hpl := heap_lt h1.1
  have HX := Lib.hid (And.intro h1 (And.intro h2 (And.intro h3 (And.intro hF hn))))
  clear h1 h2 h3 hF hn hl
  go_enter Tryz.func35, Tryz.ntmps35
  go_wp2
  go_loopg [5, 6, 7] n (fun g v5 v6 v7 wr => ∃ (k : Nat) (oo : Option Addr) (on oc : Nat) (ko : Option Addr) (kn kc : Nat), g + k = n ∧ v7 = .int .i64 k ∧ v5 = .slice oo on oc ∧ v6 = .slice ko kn kc ∧ ExpRel w wr l now k oo on oc ko kn kc)
  case atStart => exact ⟨0, none, 0, 0, none, 0, 0, by omega, rfl, rfl, rfl, Below.refl _ _, Own.nil' _ _, Own.nil' _ _, fun _ h => (nomatch h), fun _ h => (nomatch h), fun _ _ h => (nomatch h)⟩
  case round =>
    obtain ⟨k, oo, on, oc, ko, kn, kc, hgk, rfl, rfl, rfl, hrel⟩ := hrel
    have hC := Chg.of_below hrel.below (fun _ => False)
    have hp1 := hC.bk HX.out.1 (fun h => h)
    obtain ⟨z0, z1, z2⟩ := cellsB hp1
    have hon : on ≤ 1000000 := by
      have h1 := hrel.out.len
      rw [List.length_map] at h1
      have h2 := expired_len (l.take k) now
      rw [List.length_take] at h2
      omega
    have hkn : kn ≤ 1000000 := by
      have h1 := fl_own_len el_e hrel.kept
      have h2 := stays_len (l.take k) now
      rw [List.length_take] at h2
      omega
    have HR := Lib.hid (And.intro hrel hp1)
    have hol := HX.out.2.1.keep hC (fun _ _ h => h)
    clear hC hp1 hrel
    by_cases hk : k < n
    · obtain ⟨e, he⟩ : ∃ e, l[k]? = some e := ⟨_, List.getElem?_eq_getElem (by rw [HX.out.2.2.2.2]; exact hk)⟩
      obtain ⟨b, off, rfl, hc⟩ := el_at hol he
      obtain ⟨c0, c1, c2, c3⟩ := hc _ _ _ rfl
      have HE := Lib.hid he
      have HOA := Lib.hid (fun C => And.intro (HR.out.1.out.keep ((Chg.refl (fun _ => False) wr).alloc C) (fun _ _ h => h)) (HR.out.1.kept.keep ((Chg.refl (fun _ => False) wr).alloc C) (fun _ _ h => h)))
      clear hol hc he
      by_cases hexp : e.ends ≤ now
      · have hx : (e.ends : Int) ≤ (now : Int) := by omega
        go_wp2_with (at_builtin; refine wpList_append' rfl (.tmp 27) (.tmp 36) el_u64 rfl rfl rfl (HOA.out _).1 (m := 1) (news := [idCell e.id]) rfl (Row.alloc wr #[.int .u64 (e.id : Int)] _ _) (one_id [e.id]) (by unfold maxLen; omega) (by omega) ?_; intro xo xc w2 hx hch _ hx2; have H2 := Lib.hid (exp_out HR.out.1 HE.out hexp hx hch hx2); clear hx hch hx2)
        go_roundg (gk - 1)
        case measure => omega
        case rel => exact ⟨k + 1, xo, on + 1, xc, ko, kn, kc, by omega, by go_num, rfl, rfl, H2.out⟩
      · have hx : ¬ (e.ends : Int) ≤ (now : Int) := by omega
        go_wp2_with (at_builtin; refine wpList_append' rfl (.tmp 38) (.tmp 46) el_s rfl rfl rfl (HOA.out _).2 (m := 1) (news := e.cells) rfl (Row.alloc wr #[.int .u64 (e.id : Int), .int .u64 (e.ends : Int), .int .u64 (e.life : Int)] _ _) (el_e.one e) (by unfold maxLen; omega) (by omega) ?_; intro xo xc w2 hx hch _ hx2; have H2 := Lib.hid (exp_keep HR.out.1 HE.out hexp hx hch hx2); clear hx hch hx2)
        go_roundg (gk - 1)
        case measure => omega
        case rel => exact ⟨k + 1, oo, on, oc, xo, kn + 1, xc, by omega, by go_num, rfl, rfl, H2.out⟩
    · obtain rfl : k = n := by omega
      clear hol
      go_wp2
      go_ret
      obtain ⟨g, hp1⟩ := HR.out
      have htk : l.take k = l := List.take_of_length_le (by rw [HX.out.2.2.2.2]; exact Nat.le_refl _)
      have hpo : ∀ a, oo = some a → ¬ a.block = p := fun a ha e => by have := g.onew a ha; omega
      refine ⟨oo, on, oc, rfl, ?_, g.onew, ?_⟩
      · have := g.out
        rw [htk] at this
        exact this.keep (Chg.one wr p 3 _) hpo
      · have := g.kept
        rw [htk] at this
        exact rend_same (by rw [HX.out.2.2.2.1]; simp) hp1 g.below this g.knew hpl

theorem rclose_none (cs : Array Value) (t : TypeId) (p last id : Nat) (l : List Sess) (F : List Nat) (w : World) (h : RBookAt w p cs t last l F) (hl : l.length ≤ 1000000) (hno : ∀ e ∈ l, e.id ≠ id) :
    Calls Tryz.prog 33 #[.pointer (some ⟨p, 2, none⟩), .int .u64 (id : Int)] w fun r w' => r = .returned (.int .i64 11) ∧ w = w' := by
  have HF := Lib.hid (rat_none cs t p last id l F w h hl hno)
  clear h hno
  go_enter Tryz.func33, Tryz.ntmps33
  go_wp2_with (go_at_call 56; (with_reducible refine HF.out.mono ?_); rintro r w1 ⟨rfl, rfl⟩)
  go_ret
  exact ⟨rfl, rfl⟩
set_option maxHeartbeats 4000000 in
set_option maxRecDepth 100000 in
theorem rclose_some (cs : Array Value) (t : TypeId) (p last id i : Nat) (e : Sess) (l : List Sess) (F : List Nat) (w : World) (h : RBookAt w p cs t last l F) (hl : l.length ≤ 4096) (he : l[i]? = some e) (hid : e.id = id) (hno : ∀ e ∈ l.take i, e.id ≠ id) :
    Calls Tryz.prog 33 #[.pointer (some ⟨p, 2, none⟩), .int .u64 (id : Int)] w fun r w' => r = .returned (.int .i64 0) ∧ RWrote w w' p cs t last (l.eraseIdx i) F := by
  have HF := Lib.hid (rat_some cs t p last id i e l F w h (by omega) he hid hno)
  obtain ⟨lo, n, cap, h1, h2, h3, hF⟩ := h
  have hn := fl_own_len el_e h2
  obtain ⟨b, off, rfl, _⟩ := el_at h2 he
  have hin : i < n := by rw [← hn]; exact (List.getElem?_eq_some_iff.1 he).1
  have hcap := h2.le
  have hmax := h2.max
  have hn4 : n ≤ 4096 := by omega
  obtain ⟨z0, z1, z2⟩ := cellsB h1
  have d1 : w.drew.cell? ⟨p, 3, none⟩ = some (.slice (some ⟨b, off, none⟩) n cap) := z1
  have b1 : (w.alloc (.cells #[] 96)).cell? ⟨p, 3, none⟩ = some (.slice (some ⟨b, off, none⟩) n cap) := alloc_cell z1
  have b1' : (w.alloc (.cells #[] 96)).drew.cell? ⟨p, 3, none⟩ = some (.slice (some ⟨b, off, none⟩) n cap) := b1
  have HO := Lib.hid (show Row w (some ⟨b, off, none⟩) ((l.take i).flatMap Sess.cells) by rw [← fl_take el_e]; exact h2.row.take _)
  obtain ⟨A, hA⟩ : ∃ A : Option Addr, (if cap = i + 1 then some (⟨b, off, none⟩ : Addr) else some ⟨b, off + (i + 1) * 3, none⟩) = A := ⟨_, rfl⟩
  have HR := Lib.hid (show Row w A _ by rw [← hA]; exact fl_row el_e h2 hn (i + 1))
  have HL := Lib.hid (And.intro (show ((l.take i).flatMap Sess.cells).length = i * 3 by rw [fl_len el_e, List.length_take]; congr 1; omega) (show ((l.drop (i + 1)).flatMap Sess.cells).length = (n - (i + 1)) * 3 by rw [fl_len el_e, List.length_drop, hn]))
  have HE := Lib.hid (show (l.take i).flatMap Sess.cells ++ (l.drop (i + 1)).flatMap Sess.cells = (l.eraseIdx i).flatMap Sess.cells by rw [← List.flatMap_append, List.eraseIdx_eq_take_drop_succ])
  have HX := Lib.hid (And.intro h1 (And.intro h3 hF))
  have hpl := heap_lt h1.1
  clear h1 h2 h3 hF he hid hno hn hl
  have hic : i ≤ cap := by omega
  have hic' : (i : Int) ≤ (cap : Int) := by omega
  have hic2 : (i : Int) ≤ (n : Int) := by omega
  have hp0 : (0 : Int) ≤ (i : Int) + 1 := by omega
  have hp1 : (i : Int) + 1 ≤ (n : Int) := by omega
  have hp2 : ((i : Int) + 1).toNat = i + 1 := by omega
  have hp3 : (n : Int) ≤ (cap : Int) := by omega
  have hw := IntWalk.i64_in ((i : Int) + 1) (by omega)
  have hz1 : 0 + i ≤ maxLen := by unfold maxLen; omega
  have hz2 : (0 + i) * 24 ≤ 140737488355328 := by omega
  have hz3 : i + (n - (i + 1)) ≤ maxLen := by unfold maxLen; omega
  have hz4 : (i + (n - (i + 1))) * 24 ≤ 140737488355328 := by omega
  have HZ := Lib.hid (And.intro hz1 (And.intro hz2 (And.intro hz3 hz4)))
  clear hz1 hz2 hz3 hz4 z0 z1
  go_enter Tryz.func33, Tryz.ntmps33
  go_wp2_with (go_at_call 56; (with_reducible refine HF.out.mono ?_); rintro r w1 ⟨rfl, rfl⟩)
  go_region_law (first
    | (refine step_append' rfl (.tmp 12) (.tmp 18) el_s rfl (c := cap) ?hs ?hx (Own.alloc0 w 3 _ _).drew HL.out.1 (HO.out.below ((Below.refl _ w).alloc (Nat.le_refl _) _)).drew (fl_one el_e _) HZ.out.1 HZ.out.2.1 ?_; (case hs => simp [Act.eval, Act.put]); (case hx => simp [Act.eval, Act.put]); simp only [Nat.zero_add, List.nil_append]; intro xo xc w2 hx hch _ hx2; have hb2 := chg_new (Below.refl _ _) hch.undrew; have hf2 := new_blk (Below.refl _ w) hx2; have hpp := (Chg.of_below hb2 (fun _ => False)).bk HX.out.1 (fun h => h); obtain ⟨y0, y1, y2⟩ := cellsB hpp; have H2 := Lib.hid (And.intro hx (And.intro hb2 (And.intro hf2 hpp))); clear hx hch hx2 hb2 hf2 hpp)
    | (refine step_append' rfl (.tmp 19) (.tmp 26) el_s rfl (c := cap - (i + 1)) ?hs ?hx H2.out.1 HL.out.2 (HR.out.below H2.out.2.1) (fl_one el_e _) HZ.out.2.2.1 HZ.out.2.2.2 ?_; (case hs => simp [Act.eval, Act.put]); (case hx => simp [Act.eval, Act.put]); rw [HE.out]; intro yo yc w3 hx hch _ hx2; have hb3 := H2.out.2.1.trans (hch.below H2.out.2.1.size (fun k ⟨a, ha, e⟩ => e ▸ H2.out.2.2.1 a ha)); have hpp := (Chg.of_below hb3 (fun _ => False)).bk HX.out.1 (fun h => h); obtain ⟨v0, v1, v2⟩ := cellsB hpp; have H3 := Lib.hid (And.intro hx (And.intro hb3 (And.intro (fun a ha => (hx2 a ha).elim (H2.out.2.2.1 a) (fun h => Nat.le_trans H2.out.2.1.size h)) hpp))); clear hx hch hx2 hb3 hpp))
  all_goals go_wp2
  all_goals (
    go_ret
    exact ⟨rfl, rend_same (by rw [HX.out.2.2]; simp) H3.out.2.2.2 H3.out.2.1 H3.out.1 H3.out.2.2.1 hpl⟩)
end Go.Proofs.YtackmgmaippajaaGreat.Ls
