/-
  JOINED BY fam.py out of: DelN, TreeL.
-/
import Derived.Test.YtackmgmaippajaaGreatFN
import Derived.Test.YtackmgmaippajaaGreatFT
-- part DelN
namespace Go.Proofs.YtackmgmaippajaaGreat.Tr
set_option maxRecDepth 100000
open Go Go.RowKit

theorem zero_one' : ∀ u ∈ (.agg #[.string ⟨#[]⟩, .slice none 0 0, .int .u64 0, .int .u64 0] : Value).cells.toList, u.oneCell' = true := by
  intro u hu
  simp [Value.cells] at hu
  rcases hu with rfl | rfl | rfl <;> rfl
theorem el_at {w : World} {lo : Option Addr} {n cap i : Nat} {es : List Nd} {e : Nd} (ho : Own w 4 lo n cap (es.flatMap Nd.cells)) (he : es[i]? = some e) :
    ∃ b off, lo = some ⟨b, off, none⟩ ∧ ∀ v0 v1 v2 v3, e.cells = [v0, v1, v2, v3] → w.cell? ⟨b, off + i * 4, none⟩ = some v0 ∧ w.cell? ⟨b, off + i * 4 + 1, none⟩ = some v1 ∧ w.cell? ⟨b, off + i * 4 + 2, none⟩ = some v2 ∧ w.cell? ⟨b, off + i * 4 + 3, none⟩ = some v3 ∧ w.frozen? ⟨b, off + i * 4, none⟩ = false ∧ w.frozen? ⟨b, off + i * 4 + 1, none⟩ = false ∧ w.frozen? ⟨b, off + i * 4 + 2, none⟩ = false ∧ w.frozen? ⟨b, off + i * 4 + 3, none⟩ = false := by
  obtain ⟨b, off, rfl, h⟩ := fl_at el_e ho he
  refine ⟨b, off, rfl, fun v0 v1 v2 v3 hc => ?_⟩
  rw [hc] at h
  have h0 := h 0 v0 rfl
  have h1 := h 1 v1 rfl
  have h2 := h 2 v2 rfl
  have h3 := h 3 v3 rfl
  simp only [← Nat.add_assoc, Nat.add_zero] at h0 h1 h2 h3
  exact ⟨h0.1, h1.1, h2.1, h3.1, h0.2, h1.2, h2.2, h3.2⟩
theorem take_next {es : List Nd} {k : Nat} {e : Nd} (h : es[k]? = some e) : es.take k ++ [e] = es.take (k + 1) := by rw [List.take_add_one, h]; rfl

/-- Behind a predicate's calls. -/
theorem at_none {lo : Option Addr} {F F' : List Nat} {w : World} (h : ∀ a, lo = some a → a.block ∉ F ∧ a.block < w.heap.size) (hF : ∀ k ∈ F', k ∈ F ∨ w.heap.size ≤ k) : ∀ a, lo = some a → a.block ∉ F' := by
  intro a ha hk
  rcases hF _ hk with h1 | h1
  · exact (h a ha).1 h1
  · have := (h a ha).2; omega
set_option maxHeartbeats 2000000 in
set_option maxRecDepth 100000 in
theorem index_any {f : Nat} {caps : Array Value} {pr : Nd → Bool} {St : List Nd → List Nat → World → Prop} (lo : Option Addr) (n cap : Nat) (es : List Nd) (F : List Nat) (w : World) (ho : Own w 4 lo n cap (es.flatMap Nd.cells)) (h : DelBy Tryz.prog f caps Nd.val pr es St) (h0 : St [] F w) (hF : ∀ a, lo = some a → a.block ∉ F) (hn : n ≤ 1000000) :
    Calls Tryz.prog 133 #[.slice lo n cap, .func (.func f) #[] caps] w fun r w' => ∃ (R : Int) (F' : List Nat), r = .returned (.int .i64 R) ∧ Chg (· ∈ F) w w' ∧ (∀ k ∈ F', k ∈ F ∨ w.heap.size ≤ k) ∧
      ((R = -1 ∧ (∀ e ∈ es, pr e = false) ∧ St es F' w') ∨ (∃ (i : Nat) (x : Nd), R = (i : Int) ∧ es[i]? = some x ∧ pr x = true ∧ (∀ y ∈ es.take i, pr y = false) ∧ St (es.take (i + 1)) F' w')) := by
  have hes := fl_own_len el_e ho
  have hcf := h.fn
  have HH := Lib.hid (And.intro ho (And.intro h (And.intro h0 (And.intro hes (And.intro hF (fun a (ha : lo = some a) => (ho.at_ a ha).2.1))))))
  clear ho h h0 hes hF
  go_enter Tryz.func133, Tryz.ntmps133
  go_wp2
  go_loopg [8] n (fun g v wr => ∃ (k : Nat) (F1 : List Nat), g + k = n ∧ v = .int .i64 k ∧ Chg (· ∈ F) w wr ∧ (∀ k ∈ F1, k ∈ F ∨ w.heap.size ≤ k) ∧ St (es.take k) F1 wr ∧ ∀ y ∈ es.take k, pr y = false)
  case atStart => exact ⟨0, F, by omega, rfl, Chg.refl _ _, fun _ h => .inl h, HH.out.2.2.1, by simp⟩
  case round =>
    obtain ⟨k, F1, hgk, rfl, hch, hgr, hst, hno⟩ := hrel
    by_cases hk : k < n
    · obtain ⟨e, he⟩ : ∃ e, es[k]? = some e := ⟨_, List.getElem?_eq_getElem (by rw [HH.out.2.2.2.1]; exact hk)⟩
      have how := HH.out.1.keep hch (fun a ha => HH.out.2.2.2.2.1 a ha)
      obtain ⟨b, off, hlo, hcs⟩ := el_at how he
      have HB := Lib.hid (HH.out.2.1.by' (es.take k) e F1 wr (by rw [take_next he]; exact List.take_prefix _ _) hst)
      have hpr : pr e = true ∨ pr e = false := by cases pr e <;> simp
      have HS := Lib.hid (And.intro hch (And.intro hno (And.intro he hgr)))
      obtain ⟨xk, xb, xv, xw, xo, xc⟩ := e
      obtain ⟨c0, c1, c2, c3, _⟩ := hcs _ _ _ _ rfl
      clear hch hst hno he how hcs hgr
      subst hlo
      rcases hpr with hpr | hpr
      · have HP := Lib.hid hpr
        have HC := Lib.hid (show Calls Tryz.prog f (#[.agg #[.string xk, .slice xo xb.length xc, .int .u64 (xv : Int), .int .u64 (xw : Int)]] ++ caps) wr (fun r w2 => r = .returned (.bool true) ∧ ∃ F', St (es.take k ++ [_]) F' w2 ∧ Chg (· ∈ F1) wr w2 ∧ ∀ k ∈ F', k ∈ F1 ∨ wr.heap.size ≤ k) from hpr ▸ HB.out)
        clear hpr HB
        go_wp2_with ((with_reducible refine HC.out.mono ?_); rintro r w1 ⟨rfl, F2, hs1, hc1, hg1⟩; have H1 := Lib.hid (And.intro hs1 (And.intro hc1 hg1)); clear hs1 hc1 hg1)
        go_ret
        refine ⟨(k : Int), F2, rfl, HS.out.1.trans H1.out.2.1 ?_, ?_, .inr ⟨k, _, rfl, HS.out.2.2.1, HP.out, HS.out.2.1, ?_⟩⟩
        · intro i hi hi1
          rcases HS.out.2.2.2 i hi1 with h | h
          · exact h
          · omega
        · intro i hi
          rcases H1.out.2.2 i hi with h | h
          · exact HS.out.2.2.2 i h
          · exact .inr (Nat.le_trans HS.out.1.size h)
        · rw [← take_next HS.out.2.2.1]; exact H1.out.1
      · have HP := Lib.hid hpr
        have HC := Lib.hid (show Calls Tryz.prog f (#[.agg #[.string xk, .slice xo xb.length xc, .int .u64 (xv : Int), .int .u64 (xw : Int)]] ++ caps) wr (fun r w2 => r = .returned (.bool false) ∧ ∃ F', St (es.take k ++ [_]) F' w2 ∧ Chg (· ∈ F1) wr w2 ∧ ∀ k ∈ F', k ∈ F1 ∨ wr.heap.size ≤ k) from hpr ▸ HB.out)
        clear hpr HB
        go_wp2_with ((with_reducible refine HC.out.mono ?_); rintro r w1 ⟨rfl, F2, hs1, hc1, hg1⟩; have H1 := Lib.hid (And.intro hs1 (And.intro hc1 hg1)); clear hs1 hc1 hg1)
        go_roundg (gk - 1)
        case measure => omega
        case rel =>
          refine ⟨k + 1, F2, by omega, by go_num, HS.out.1.trans H1.out.2.1 ?_, ?_, ?_, ?_⟩
          · intro i hi hi1
            rcases HS.out.2.2.2 i hi1 with h | h
            · exact h
            · omega
          · intro i hi
            rcases H1.out.2.2 i hi with h | h
            · exact HS.out.2.2.2 i h
            · exact .inr (Nat.le_trans HS.out.1.size h)
          · rw [← take_next HS.out.2.2.1]; exact H1.out.1
          · rw [← take_next HS.out.2.2.1]
            intro y hy
            rcases List.mem_append.1 hy with hy | hy
            · exact HS.out.2.1 y hy
            · rw [List.mem_singleton] at hy; subst hy; exact HP.out
    · have HS := Lib.hid (And.intro hch (And.intro hst (And.intro hno hgr)))
      clear hch hst hno hgr
      go_wp2
      go_ret
      have e1 : es.take k = es := List.take_of_length_le (by rw [HH.out.2.2.2.1]; omega)
      refine ⟨-1, F1, rfl, HS.out.1, HS.out.2.2.2, .inl ⟨rfl, ?_, ?_⟩⟩
      · have := HS.out.2.2.1; rwa [e1] at this
      · have := HS.out.2.1; rwa [e1] at this
theorem index_none {f : Nat} {caps : Array Value} {pr : Nd → Bool} {St : List Nd → List Nat → World → Prop} (lo : Option Addr) (n cap : Nat) (es : List Nd) (F : List Nat) (w : World) (ho : Own w 4 lo n cap (es.flatMap Nd.cells)) (h : DelBy Tryz.prog f caps Nd.val pr es St) (h0 : St [] F w) (hF : ∀ a, lo = some a → a.block ∉ F) (hn : n ≤ 1000000) (hno : ∀ e ∈ es, pr e = false) :
    Calls Tryz.prog 133 #[.slice lo n cap, .func (.func f) #[] caps] w fun r w' => ∃ F', r = .returned (.int .i64 (-1)) ∧ Chg (· ∈ F) w w' ∧ (∀ k ∈ F', k ∈ F ∨ w.heap.size ≤ k) ∧ St es F' w' := by
  refine (index_any lo n cap es F w ho h h0 hF hn).mono ?_
  rintro r w' ⟨R, F', rfl, h1, h2, ⟨rfl, _, h3⟩ | ⟨i, x, rfl, hx, hp, _, _⟩⟩
  · exact ⟨F', rfl, h1, h2, h3⟩
  · rw [hno x (List.mem_of_getElem? hx)] at hp; cases hp
theorem index_some {f : Nat} {caps : Array Value} {pr : Nd → Bool} {St : List Nd → List Nat → World → Prop} (lo : Option Addr) (n cap : Nat) (es : List Nd) (F : List Nat) (w : World) (ho : Own w 4 lo n cap (es.flatMap Nd.cells)) (h : DelBy Tryz.prog f caps Nd.val pr es St) (h0 : St [] F w) (hF : ∀ a, lo = some a → a.block ∉ F) (hn : n ≤ 1000000)
    {i : Nat} {x : Nd} (hi : es[i]? = some x) (hx : pr x = true) (hno : ∀ y ∈ es.take i, pr y = false) :
    Calls Tryz.prog 133 #[.slice lo n cap, .func (.func f) #[] caps] w fun r w' => ∃ F', r = .returned (.int .i64 (i : Int)) ∧ Chg (· ∈ F) w w' ∧ (∀ k ∈ F', k ∈ F ∨ w.heap.size ≤ k) ∧ St (es.take (i + 1)) F' w' := by
  refine (index_any lo n cap es F w ho h h0 hF hn).mono ?_
  rintro r w' ⟨R, F', rfl, h1, h2, ⟨rfl, h4, h3⟩ | ⟨k, y, rfl, hy, hp, h4, h3⟩⟩
  · rw [h4 x (List.mem_of_getElem? hi)] at hx; cases hx
  · have hki : k = i := by
      rcases Nat.lt_trichotomy k i with h | h | h
      · have := hno y (List.mem_of_getElem? (i := k) (by rw [List.getElem?_take_of_lt h]; exact hy))
        rw [this] at hp; cases hp
      · exact h
      · have := h4 x (List.mem_of_getElem? (i := i) (by rw [List.getElem?_take_of_lt h]; exact hi))
        rw [this] at hx; cases hx
    subst hki
    exact ⟨F', rfl, h1, h2, h3⟩
theorem first_of (pr : Nd → Bool) (es : List Nd) : (∀ e ∈ es, pr e = false) ∨ ∃ (i : Nat) (x : Nd), es[i]? = some x ∧ pr x = true ∧ ∀ y ∈ es.take i, pr y = false := by
  induction es with
  | nil => exact .inl (by simp)
  | cons e es ih =>
    cases he : pr e with
    | true => exact .inr ⟨0, e, rfl, he, by simp⟩
    | false =>
      rcases ih with h | ⟨i, x, h1, h2, h3⟩
      · exact .inl (fun y hy => by rcases List.mem_cons.1 hy with rfl | hy; exact he; exact h y hy)
      · exact .inr ⟨i + 1, x, h1, h2, fun y hy => by rw [List.take_succ_cons] at hy; rcases List.mem_cons.1 hy with rfl | hy; exact he; exact h3 y hy⟩
theorem nd_set4 {E : Type} {cells : E → List Value} (h : Elem cells 4) (es : List E) (i : Nat) (e : E) (v0 v1 v2 v3 : Value) (hc : cells e = [v0, v1, v2, v3]) (hi : i < es.length) : ((((es.flatMap cells).set (i * 4) v0).set (i * 4 + 1) v1).set (i * 4 + 2) v2).set (i * 4 + 3) v3 = (es.set i e).flatMap cells := by
  induction es generalizing i with
  | nil => simp at hi
  | cons x es ih =>
    have hx := h.len x
    obtain ⟨a0, a1, a2, a3, hx⟩ : ∃ a0 a1 a2 a3, cells x = [a0, a1, a2, a3] := by
      match hl : cells x, hx with
      | [a0, a1, a2, a3], _ => exact ⟨a0, a1, a2, a3, rfl⟩
    cases i with
    | zero => simp [hx, hc]
    | succ i =>
      simp at hi
      rw [List.set_cons_succ, List.flatMap_cons, List.flatMap_cons, ← ih i hi, hx]
      rw [show (i + 1) * 4 = i * 4 + 1 + 1 + 1 + 1 by omega]
      simp
theorem el_iet {w : World} {b off n cap i : Nat} {xs : List Nd} (h : Own w 4 (some ⟨b, off, none⟩) n cap (xs.flatMap Nd.cells)) (e : Nd) (v0 v1 v2 v3 : Value) (hc : e.cells = [v0, v1, v2, v3]) (hi : i < xs.length) :
    Own ((((w.setCell ⟨b, off + i * 4, none⟩ v0).setCell ⟨b, off + i * 4 + 1, none⟩ v1).setCell ⟨b, off + i * 4 + 2, none⟩ v2).setCell ⟨b, off + i * 4 + 3, none⟩ v3) 4 (some ⟨b, off, none⟩) n cap ((xs.set i e).flatMap Nd.cells) := by
  have hl := fl_own_len el_e h
  rw [← nd_set4 el_e xs i e v0 v1 v2 v3 hc hi]
  have h1 := h.set (i * 4) v0 (by omega)
  have h2 := h1.set (i * 4 + 1) v1 (by omega)
  have h3 := h2.set (i * 4 + 2) v2 (by omega)
  have h4 := h3.set (i * 4 + 3) v3 (by omega)
  simpa only [Nat.add_assoc] using h4
set_option maxHeartbeats 4000000 in
set_option maxRecDepth 100000 in
theorem delfunc_any {f : Nat} {caps : Array Value} {pr : Nd → Bool} {St : List Nd → List Nat → World → Prop} (lo : Option Addr) (n cap : Nat) (es : List Nd) (F : List Nat) (w : World) (ho : Own w 4 lo n cap (es.flatMap Nd.cells)) (h : DelBy Tryz.prog f caps Nd.val pr es St) (h0 : St [] F w) (hF : ∀ a, lo = some a → a.block ∉ F) (hn : n ≤ 1000000) :
    Calls Tryz.prog 115 #[.slice lo n cap, .func (.func f) #[] caps] w fun r w' => ∃ (k : Nat) (F' : List Nat), r = .returned (.slice lo k cap) ∧ Own w' 4 lo k cap ((es.filter (fun e => !pr e)).flatMap Nd.cells) ∧ St es F' w' ∧
      Chg (fun i => i ∈ F ∨ ∃ a, lo = some a ∧ a.block = i) w w' ∧ (∀ k ∈ F', k ∈ F ∨ w.heap.size ≤ k) := by
  rcases first_of pr es with hno | ⟨i0, x, hi0, hpx, hno⟩
  · have HI := Lib.hid (index_none lo n cap es F w ho h h0 hF hn hno)
    have HH := Lib.hid (And.intro ho (And.intro hno hF))
    clear ho h h0 hF hno
    go_enter Tryz.func115, Tryz.ntmps115
    go_wp2_with (go_at_call 133; (with_reducible refine HI.out.mono ?_); rintro r w1 ⟨F1, rfl, hc, hg, hs⟩; have H1 := Lib.hid (And.intro hc (And.intro hg hs)); clear hc hg hs)
    go_ret
    have e1 : es.filter (fun e => !pr e) = es := List.filter_eq_self.2 (fun a ha => by rw [HH.out.2.1 a ha]; rfl)
    exact ⟨n, F1, rfl, by rw [e1]; exact HH.out.1.keep H1.out.1 (fun a ha => HH.out.2.2 a ha), H1.out.2.2, H1.out.1.to (fun k hk => .inl hk), H1.out.2.1⟩
  · have HI := Lib.hid (index_some lo n cap es F w ho h h0 hF hn hi0 hpx hno)
    have hes := fl_own_len el_e ho
    have hin : i0 < n := by rw [← hes]; exact (List.getElem?_eq_some_iff.1 hi0).1
    obtain ⟨b, off, rfl, _⟩ := el_at ho hi0
    have hbl := (ho.at_ _ rfl).2.1
    have hcf := h.fn
    have hcap := ho.le
    have e0 : es.take i0 = (es.take (i0 + 1)).filter (fun e => !pr e) := by
      rw [← take_next hi0, List.filter_append, List.filter_eq_self.2 (fun a ha => by rw [hno a ha]; rfl)]
      simp [hpx]
    have HH := Lib.hid (And.intro ho (And.intro h (And.intro hF (And.intro e0 (And.intro hes hbl)))))
    clear ho h h0 hF hno hpx hi0 e0 hes hbl
    go_enter Tryz.func115, Tryz.ntmps115
    go_wp2_with (go_at_call 133; (with_reducible refine HI.out.mono ?_); rintro r w1 ⟨F1, rfl, hc, hg, hs⟩; have H1 := Lib.hid (And.intro hc (And.intro hg hs)); clear hc hg hs)
    go_loopg [5, 6] (n - (i0 + 1)) (fun g vi vj wr => ∃ (i j : Nat) (xs : List Nd) (F1 : List Nat), g + j = n ∧ vi = .int .i64 i ∧ vj = .int .i64 j ∧ i < j ∧ Own wr 4 (some ⟨b, off, none⟩) n cap (xs.flatMap Nd.cells) ∧ xs.take i = (es.take j).filter (fun e => !pr e) ∧ xs.drop j = es.drop j ∧
      Chg (fun k => k ∈ F ∨ k = b) w wr ∧ St (es.take j) F1 wr ∧ (∀ k ∈ F1, k ∈ F ∨ w.heap.size ≤ k))
    case atStart =>
      exact ⟨i0, i0 + 1, es, F1, by omega, rfl, by go_num, by omega, HH.out.1.keep H1.out.1 (fun a ha => HH.out.2.2.1 a ha), HH.out.2.2.2.1, rfl, H1.out.1.to (fun k hk => .inl hk), H1.out.2.2, H1.out.2.1⟩
    case round =>
      obtain ⟨i, j, xs, F2, hgj, rfl, rfl, hij, hown, htake, hdrop, hch, hst, hgr⟩ := hrel
      have hxl := fl_own_len el_e hown
      by_cases hj : j < n
      · obtain ⟨e, he⟩ : ∃ e, es[j]? = some e := ⟨_, List.getElem?_eq_getElem (by rw [HH.out.2.2.2.2.1]; exact hj)⟩
        have hxe : xs[j]? = some e := by
          have h1 : (xs.drop j)[0]? = (es.drop j)[0]? := by rw [hdrop]
          rw [List.getElem?_drop, List.getElem?_drop] at h1
          simpa [he] using h1
        obtain ⟨y, hy⟩ : ∃ y, xs[i]? = some y := ⟨_, List.getElem?_eq_getElem (by omega)⟩
        obtain ⟨b', off', hlo, hcs⟩ := el_at hown hxe
        cases hlo
        have hpr : pr e = true ∨ pr e = false := by cases pr e <;> simp
        have hlt2 := HH.out.2.1.lt _ _ _ hst
        have hTF : wr.heap.size ∉ F2 := fun h => Nat.lt_irrefl _ (hlt2 _ h)
        have hbF : b ∉ F2 := fun h => by
          rcases hgr b h with h | h
          · exact HH.out.2.2.1 _ rfl h
          · have := HH.out.2.2.2.2.2; omega
        have HS := Lib.hid (And.intro hown (And.intro htake (And.intro hdrop (And.intro hch (And.intro hst (And.intro hgr (And.intro he (And.intro hxe (And.intro hy (And.intro hTF hbF))))))))))
        obtain ⟨xk, xb, xv, xw, xo, xc⟩ := e
        have hA := (Chg.refl (fun _ => False) wr).alloc (.cells #[.string xk, .slice xo xb.length xc, .int .u64 (xv : Int), .int .u64 (xw : Int)] 78)
        have hT := heap_top wr (.cells #[.string xk, .slice xo xb.length xc, .int .u64 (xv : Int), .int .u64 (xw : Int)] 78)
        have HB := Lib.hid (HH.out.2.1.by' (es.take j) _ F2 _ (by rw [take_next he]; exact List.take_prefix _ _) (HH.out.2.1.keep _ _ _ _ _ hst hA (fun _ _ h => h)))
        have HA := Lib.hid (And.intro hA hT)
        obtain ⟨c0, c1, c2, c3, _⟩ := hcs _ _ _ _ rfl
        clear hown htake hdrop hch hst hgr he hxe hy hTF hbF hA hT hcs hlt2
        rcases hpr with hpr | hpr
        · have HP := Lib.hid hpr
          have HC := Lib.hid (show Calls Tryz.prog f (#[.agg #[.string xk, .slice xo xb.length xc, .int .u64 (xv : Int), .int .u64 (xw : Int)]] ++ caps) (wr.alloc (.cells #[.string xk, .slice xo xb.length xc, .int .u64 (xv : Int), .int .u64 (xw : Int)] 78)) (fun r w2 => r = .returned (.bool true) ∧ ∃ F', St (es.take j ++ [_]) F' w2 ∧ Chg (· ∈ F2) _ w2 ∧ ∀ k ∈ F', k ∈ F2 ∨ _ ≤ k) from hpr ▸ HB.out)
          clear hpr HB
          go_wp2_with ((with_reducible refine HC.out.mono ?_); rintro r w2 ⟨rfl, F3, hs3, hc3, hg3⟩; have H3 := Lib.hid (And.intro hs3 (And.intro hc3 hg3)); clear hs3 hc3 hg3)
          go_roundg (gk - 1)
          case measure => omega
          case rel =>
            obtain ⟨hown, htake, hdrop, hch, hst, hgr, he, hxe, hy, hTF, hbF⟩ := HS.out
            have hc3 := H3.out.2.1
            refine ⟨i, j + 1, xs, F3, by omega, rfl, by go_num, by omega, (hown.keep HA.out.1 (fun _ _ h => h)).keep hc3 (fun a ha => by cases ha; exact hbF), ?_, ?_, ?_, ?_, ?_⟩
            · rw [← take_next he, List.filter_append, htake]
              simp [HP.out]
            · rw [← List.drop_drop, hdrop, List.drop_drop]
            · refine (hch.trans HA.out.1 (fun _ _ h => h.elim)).trans hc3 (fun k hk h => ?_)
              rcases hgr k h with h | h
              · exact .inl h
              · omega
            · rw [← take_next he]; exact H3.out.1
            · intro k hk
              have hsz := HA.out.1.size
              rcases H3.out.2.2 k hk with h | h
              · exact hgr k h
              · exact .inr (Nat.le_trans hch.size (Nat.le_trans hsz h))
        · have HP := Lib.hid hpr
          have HC := Lib.hid (show Calls Tryz.prog f (#[.agg #[.string xk, .slice xo xb.length xc, .int .u64 (xv : Int), .int .u64 (xw : Int)]] ++ caps) (wr.alloc (.cells #[.string xk, .slice xo xb.length xc, .int .u64 (xv : Int), .int .u64 (xw : Int)] 78)) (fun r w2 => r = .returned (.bool false) ∧ ∃ F', St (es.take j ++ [_]) F' w2 ∧ Chg (· ∈ F2) _ w2 ∧ ∀ k ∈ F', k ∈ F2 ∨ _ ≤ k) from hpr ▸ HB.out)
          clear hpr HB
          go_wp2_with ((with_reducible refine HC.out.mono ?_); rintro r w2 ⟨rfl, F3, hs3, hc3, hg3⟩; have hT2 := hc3.heap HA.out.2 HS.out.2.2.2.2.2.2.2.2.2.1; obtain ⟨t0, t1, t2, t3, _⟩ := cells4 hT2; have ho2 := (HS.out.1.keep HA.out.1 (fun _ _ h => h)).keep hc3 (fun a ha => (by cases ha; exact HS.out.2.2.2.2.2.2.2.2.2.2)); obtain ⟨b2, off2, hlo2, hcs2⟩ := el_at ho2 HS.out.2.2.2.2.2.2.2.2.1; cases hlo2; obtain ⟨s0, s1, s2, s3, s4, s5, s6, s7⟩ := hcs2 _ _ _ _ rfl; have H3 := Lib.hid (And.intro hs3 (And.intro hc3 (And.intro hg3 ho2))); clear hs3 hc3 hg3 hT2 ho2 hcs2)
          go_roundg (gk - 1)
          case measure => omega
          case rel =>
            obtain ⟨hown, htake, hdrop, hch, hst, hgr, he, hxe, hy, hTF, hbF⟩ := HS.out
            have hc3 := H3.out.2.1
            have hxl := fl_own_len el_e hown
            have hset := el_iet (i := i) H3.out.2.2.2 (⟨xk, xb, xv, xw, xo, xc⟩ : Nd) (.string xk) (.slice xo xb.length xc) (.int .u64 (xv : Int)) (.int .u64 (xw : Int)) rfl (by omega)
            have hcb := ((((Chg.refl (· = b) w2).set rfl (off + i * 4) (.string xk)).set rfl (off + i * 4 + 1) (.slice xo xb.length xc)).set rfl (off + i * 4 + 2) (.int .u64 (xv : Int))).set rfl (off + i * 4 + 3) (.int .u64 (xw : Int))
            have hw2 : Chg (fun k => k ∈ F ∨ k = b) w w2 := by
              refine (hch.trans HA.out.1 (fun _ _ h => h.elim)).trans hc3 (fun k hk h => ?_)
              rcases hgr k h with h | h
              · exact .inl h
              · omega
            have hg3 : ∀ k ∈ F3, k ∈ F ∨ w.heap.size ≤ k := by
              intro k hk
              have hsz := HA.out.1.size
              rcases H3.out.2.2.1 k hk with h | h
              · exact hgr k h
              · exact .inr (Nat.le_trans hch.size (Nat.le_trans hsz h))
            have hbF3 : ∀ k ∈ F3, ¬ k = b := by
              intro k hk e
              subst e
              rcases hg3 k hk with h | h
              · exact HH.out.2.2.1 _ rfl h
              · have := HH.out.2.2.2.2.2; omega
            refine ⟨i + 1, j + 1, xs.set i (⟨xk, xb, xv, xw, xo, xc⟩ : Nd), F3, by omega, by go_num, by go_num, by omega, hset, ?_, ?_, hw2.trans hcb (fun k _ h => .inr h), ?_, hg3⟩
            · rw [← take_next he, List.filter_append, ← htake, List.take_succ_eq_append_getElem (by rw [List.length_set]; omega), List.getElem_set_self, List.take_set_of_le (Nat.le_refl _)]
              simp [HP.out]
            · rw [List.drop_set_of_lt (by omega), ← List.drop_drop, hdrop, List.drop_drop]
            · rw [← take_next he]; exact HH.out.2.1.keep _ _ _ _ _ H3.out.1 hcb hbF3
      · have e1 : es.take j = es := List.take_of_length_le (by rw [HH.out.2.2.2.2.1]; omega)
        rw [e1] at htake hst
        have hin' : i < n := by omega
        have hcut := hown.cut (m := i) (c := cap) (by omega) (by omega) (Nat.le_refl _)
        rw [fl_take el_e, htake] at hcut
        have HS := Lib.hid (And.intro hcut (And.intro hch (And.intro hst hgr)))
        clear hown htake hdrop hch hst hgr hcut
        have g1 : (i : Int) ≤ (n : Int) := by omega
        have g2 : ¬ cap = i := by omega
        have g3 : i ≤ n := by omega
        have g4 : 0 < n - i := by omega
        have g5 : i + (n - i) ≤ cap := by omega
        have g6 : (i : Int) ≤ (cap : Int) := by omega
        have g7 : i ≤ cap := by omega
        go_wp2_with (refine wpList_clear' rfl (.tmp 38) el_i rfl rfl rfl HS.out.1 g4 g5 zero_one' ?_; intro w3 hx hch; have H3 := Lib.hid (And.intro hx hch); clear hx hch)
        go_ret
        refine ⟨i, F2, rfl, H3.out.1, HH.out.2.1.keep _ _ _ _ _ HS.out.2.2.1 H3.out.2 ?_, ?_, HS.out.2.2.2⟩
        · intro k hk e
          subst e
          rcases HS.out.2.2.2 k hk with h | h
          · exact HH.out.2.2.1 _ rfl h
          · have := HH.out.2.2.2.2.2; omega
        · refine (HS.out.2.1.to (fun k h => ?_)).trans H3.out.2 (fun k _ h => .inr ⟨_, rfl, h.symm⟩)
          rcases h with h | h
          · exact .inl h
          · exact .inr ⟨_, rfl, h.symm⟩
end Go.Proofs.YtackmgmaippajaaGreat.Tr
-- part TreeL
namespace Go.Proofs.YtackmgmaippajaaGreat.Tr
set_option maxRecDepth 100000
open Go Go.RowKit

theorem no_key {key : ByteArray} (h : key.size = 0) : key.toList.isEmpty = true ∧ key.toList = [] := by
  have h1 : key.toList = [] := by
    rw [ba_toList]
    have : key.data.toList.length = 0 := by rw [Array.length_toList]; exact h
    exact List.eq_nil_of_length_eq_zero this
  exact ⟨by rw [h1]; rfl, h1⟩
theorem map_erase {α β : Type} (f : α → β) (l : List α) (i : Nat) : (l.eraseIdx i).map f = (l.map f).eraseIdx i := by
  rw [List.eraseIdx_eq_take_drop_succ, List.eraseIdx_eq_take_drop_succ, List.map_append, List.map_take, List.map_drop]
/-! ### Put, refused -/
theorem put_empty (p : Nat) (key : ByteArray) (v a b : Value) (w : World) (h : key.size = 0) :
    Calls Tryz.prog 80 #[.pointer (some ⟨p, 0, none⟩), .string key, v, a, b] w fun r w' => r = .returned (.tuple #[.int .u64 0, .int .i64 10]) ∧ w = w' := by
  obtain ⟨i1, i2⟩ := no_key h
  go_enter Tryz.func80, Tryz.ntmps80
  go_wp2
  go_ret2
  exact ⟨rfl, rfl⟩
theorem put_name (p : Nat) (key : ByteArray) (v a b : Value) (w : World) (h0 : key.size ≠ 0) (h : 64 < key.size) :
    Calls Tryz.prog 80 #[.pointer (some ⟨p, 0, none⟩), .string key, v, a, b] w fun r w' => r = .returned (.tuple #[.int .u64 0, .int .i64 10]) ∧ w = w' := by
  obtain ⟨i1, i2⟩ := key_facts h0
  have i3 : (64 : Int) < (key.size : Int) := by omega
  go_enter Tryz.func80, Tryz.ntmps80
  go_wp2
  go_ret2
  exact ⟨rfl, rfl⟩
theorem put_long (p : Nat) (key : ByteArray) (vo : Option Addr) (m c : Nat) (a b : Value) (w : World) (h0 : key.size ≠ 0) (h : key.size ≤ 64) (hm : 3840 < m) :
    Calls Tryz.prog 80 #[.pointer (some ⟨p, 0, none⟩), .string key, .slice vo m c, a, b] w fun r w' => r = .returned (.tuple #[.int .u64 0, .int .i64 3]) ∧ w = w' := by
  obtain ⟨i1, i2⟩ := key_facts h0
  have i3 : ¬ (64 : Int) < (key.size : Int) := by omega
  have i4 : (3840 : Int) < (m : Int) := by omega
  go_enter Tryz.func80, Tryz.ntmps80
  go_wp2
  go_ret2
  exact ⟨rfl, rfl⟩
set_option maxHeartbeats 1000000 in
theorem put_absent (p : Nat) (ps : List Pl) (F : List Nat) (key : ByteArray) (vo : Option Addr) (m c want : Nat) (own : Int) (w : World) (h : TreeAt w p ps F) (hf : Fine ps) (hk0 : key.size ≠ 0) (hk : key.size ≤ 64) (hm4 : m ≤ 3840) (hl : lookP ps key = none) (hw0 : want ≠ 0) :
    Calls Tryz.prog 80 #[.pointer (some ⟨p, 0, none⟩), .string key, .slice vo m c, .int .u64 (want : Int), .int .u64 own] w fun r w' => r = .returned (.tuple #[.int .u64 0, .int .i64 11]) ∧ Below w.heap.size w w' := by
  obtain ⟨lo, n, cap, l, h⟩ := h
  have HFD := Lib.hid (find_any p lo n cap l ps F key w h hf.sorted (Nat.le_trans hf.len (by decide)))
  obtain ⟨hke, hkn⟩ := key_facts hk0
  have hkI : ¬ (64 : Int) < (key.size : Int) := by omega
  have hmI : ¬ (3840 : Int) < (m : Int) := by omega
  have hwI : ((want : Int) == 0) = false := by simp; omega
  clear h
  go_enter Tryz.func80, Tryz.ntmps80
  go_wp2_with fail
  (with_reducible refine HFD.out.mono ?_)
  rintro r w2 ⟨i, fd, rfl, hb2, hin, hlo, hhi, hfd⟩
  obtain rfl : fd = false := by
    cases fd with
    | false => rfl
    | true =>
      obtain ⟨x, hx, h0⟩ := hfd.1 rfl
      rw [look_some hlo hx h0] at hl; cases hl
  have H2 := Lib.hid hb2
  clear hb2 hin hlo hhi hfd
  go_wp2
  go_ret2
  exact ⟨rfl, H2.out⟩
set_option maxHeartbeats 1000000 in
theorem put_many (p : Nat) (ps : List Pl) (F : List Nat) (key : ByteArray) (vo : Option Addr) (m c : Nat) (own : Int) (w : World) (h : TreeAt w p ps F) (hf : Fine ps) (hk0 : key.size ≠ 0) (hk : key.size ≤ 64) (hm4 : m ≤ 3840) (hl : lookP ps key = none) (h256 : 256 ≤ ps.length) :
    Calls Tryz.prog 80 #[.pointer (some ⟨p, 0, none⟩), .string key, .slice vo m c, .int .u64 0, .int .u64 own] w fun r w' => r = .returned (.tuple #[.int .u64 0, .int .i64 14]) ∧ Below w.heap.size w w' := by
  obtain ⟨lo, n, cap, l, h⟩ := h
  have HFD := Lib.hid (find_any p lo n cap l ps F key w h hf.sorted (Nat.le_trans hf.len (by decide)))
  have HI := Lib.hid h
  obtain ⟨hke, hkn⟩ := key_facts hk0
  have hkI : ¬ (64 : Int) < (key.size : Int) := by omega
  have hmI : ¬ (3840 : Int) < (m : Int) := by omega
  have hnI : (256 : Int) ≤ (n : Int) := by have := h.len.2; omega
  clear h
  go_enter Tryz.func80, Tryz.ntmps80
  go_wp2_with fail
  (with_reducible refine HFD.out.mono ?_)
  rintro r w2 ⟨i, fd, rfl, hb2, hin, hlo, hhi, hfd⟩
  obtain rfl : fd = false := by
    cases fd with
    | false => rfl
    | true =>
      obtain ⟨x, hx, h0⟩ := hfd.1 rfl
      rw [look_some hlo hx h0] at hl; cases hl
  obtain ⟨z0, z2⟩ := cells1 ((Chg.of_below hb2 (fun _ => False)).heap HI.out.heap (fun h => h))
  have H2 := Lib.hid hb2
  clear hb2 hin hlo hhi hfd
  go_wp2
  go_ret2
  exact ⟨rfl, H2.out⟩
/-! ### Put, in plain words -/
def putP (l : List Pl) (key : ByteArray) (body : List UInt8) (want own : Nat) : List Pl × Nat × Int :=
  if key.size = 0 ∨ 64 < key.size then (l, 0, 10)
  else if 3840 < body.length then (l, 0, 3)
  else match lookP l key with
    | none => if want ≠ 0 then (l, 0, 11) else if 256 ≤ l.length then (l, 0, 14) else (insP l ⟨key, body, 1, own⟩, 1, 0)
    | some x => if want = 0 then (l, 0, 12) else if x.ver ≠ want then (l, 0, 13) else (setP l ⟨key, body, (want + 1) % 18446744073709551616, x.own⟩, (want + 1) % 18446744073709551616, 0)
theorem look_mem {ps : List Pl} {key : ByteArray} {x : Pl} (h : lookP ps key = some x) : x ∈ ps := by
  induction ps with
  | nil => cases h
  | cons y ps ih =>
    rw [lookP] at h
    split at h
    · cases h; exact List.mem_cons_self
    · exact List.mem_cons_of_mem _ (ih h)
theorem Fine.puts {l : List Pl} (h : Fine l) (key : ByteArray) (body : List UInt8) (want own : Nat) (ho : own < 18446744073709551616) : Fine (putP l key body want own).1 := by
  unfold putP
  split
  · exact h
  · split
    · exact h
    · rename_i h1 h2
      split
      · rename_i hl
        split
        · exact h
        · split
          · exact h
          · exact h.ins hl (by omega) (by dsimp only; omega) (by dsimp only; omega) ho
      · rename_i x hl
        split
        · exact h
        · split
          · exact h
          · exact h.set (by dsimp only; omega) (by dsimp only; omega) (h.own x (look_mem hl))
theorem wrap_next (want : Nat) (h : want < 18446744073709551616) : IntKind.u64.wrap ((want : Int) + 1) = (((want + 1) % 18446744073709551616 : Nat) : Int) := by
  by_cases h1 : want = 18446744073709551615
  · subst h1; rfl
  · rw [IntWalk.u64_in _ (by omega)]; omega
theorem put_all (p : Nat) (ps : List Pl) (F : List Nat) (key : ByteArray) (vo : Option Addr) (m c : Nat) (val : List UInt8) (want own : Nat) (w : World) (h : TreeAt w p ps F) (hf : Fine ps) (hv : Bts w vo val) (hm : val.length = m) (hw : want < 18446744073709551616) :
    Calls Tryz.prog 80 #[.pointer (some ⟨p, 0, none⟩), .string key, .slice vo m c, .int .u64 (want : Int), .int .u64 (own : Int)] w fun r w' => r = .returned (.tuple #[.int .u64 ((putP ps key val want own).2.1 : Int), .int .i64 (putP ps key val want own).2.2]) ∧ Wrote w w' p (putP ps key val want own).1 F := by
  subst hm
  unfold putP
  by_cases h0 : key.size = 0
  · rw [if_pos (.inl h0)]
    refine (put_empty p key _ _ _ w h0).mono ?_
    rintro r w' ⟨rfl, rfl⟩
    exact ⟨rfl, .same h (Below.refl _ _)⟩
  by_cases h1 : 64 < key.size
  · rw [if_pos (.inr h1)]
    refine (put_name p key _ _ _ w h0 h1).mono ?_
    rintro r w' ⟨rfl, rfl⟩
    exact ⟨rfl, .same h (Below.refl _ _)⟩
  rw [if_neg (by omega)]
  by_cases h2 : 3840 < val.length
  · rw [if_pos h2]
    refine (put_long p key vo _ c _ _ w h0 (by omega) h2).mono ?_
    rintro r w' ⟨rfl, rfl⟩
    exact ⟨rfl, .same h (Below.refl _ _)⟩
  rw [if_neg h2]
  cases hl : lookP ps key with
  | none =>
    dsimp only
    by_cases h3 : want = 0
    · subst h3
      rw [if_neg (by simp)]
      by_cases h4 : 256 ≤ ps.length
      · rw [if_pos h4]
        refine (put_many p ps F key vo _ c _ w h hf h0 (by omega) (by omega) hl h4).mono ?_
        rintro r w' ⟨rfl, hb⟩
        exact ⟨rfl, .same h hb⟩
      · rw [if_neg h4]
        exact put_new p ps F key vo _ c val own w h hf h0 (by omega) hv rfl (by omega) hl (by omega)
    · rw [if_pos h3]
      refine (put_absent p ps F key vo _ c want _ w h hf h0 (by omega) (by omega) hl h3).mono ?_
      rintro r w' ⟨rfl, hb⟩
      exact ⟨rfl, .same h hb⟩
  | some x =>
    dsimp only
    by_cases h3 : want = 0
    · subst h3
      rw [if_pos rfl]
      refine (put_exists p ps F key x vo _ c _ w h hf h0 (by omega) (by omega) hl).mono ?_
      rintro r w' ⟨rfl, hb⟩
      exact ⟨rfl, .same h hb⟩
    · rw [if_neg h3]
      by_cases h4 : x.ver = want
      · rw [if_neg (by simpa using h4)]
        exact put_set p ps F key x vo _ c val want _ _ w h hf h0 (by omega) hv rfl (by omega) hl h3 h4 (wrap_next want hw)
      · rw [if_pos h4]
        refine (put_version p ps F key x vo _ c want _ w h hf h0 (by omega) (by omega) hl h3 h4).mono ?_
        rintro r w' ⟨rfl, hb⟩
        exact ⟨rfl, .same h hb⟩
/-! ### Delete -/
set_option maxHeartbeats 1000000 in
theorem delete_any (b off n n1 cap : Nat) (es : List Nd) (I J : Int) (i : Nat) (w : World) (h : Own w 4 (some ⟨b, off, none⟩) n cap (es.flatMap Nd.cells)) (hes : es.length = n) (hn : n ≤ 4096) (hn1 : n = n1 + 1) (hI : I = (i : Int)) (hJ : J = ((i + 1 : Nat) : Int)) (hi : i < n) :
    Calls Tryz.prog 112 #[.slice (some ⟨b, off, none⟩) n cap, .int .i64 I, .int .i64 J] w fun e w' => e = .returned (.slice (some ⟨b, off, none⟩) n1 cap) ∧ Own w' 4 (some ⟨b, off, none⟩) n1 cap ((es.eraseIdx i).flatMap Nd.cells) ∧ Chg (· = b) w w' := by
  subst hI; subst hJ
  have hcap := h.le
  have hmax := h.max
  have HO := Lib.hid (show Own w.drew 4 (some ⟨b, off, none⟩) i cap ((es.take i).flatMap Nd.cells) by rw [← fl_take el_e]; exact (h.cut (by omega) (by omega) (Nat.le_refl _)).drew)
  obtain ⟨A, hA⟩ : ∃ A : Option Addr, (if cap = i + 1 then some (⟨b, off, none⟩ : Addr) else some ⟨b, off + (i + 1) * 4, none⟩) = A := ⟨_, rfl⟩
  have HR := Lib.hid (show Row w.drew A _ by rw [← hA]; exact (fl_row el_e h hes (i + 1)).drew)
  have HL := Lib.hid (show ((es.drop (i + 1)).flatMap Nd.cells).length = (n - (i + 1)) * 4 by rw [fl_len el_e, List.length_drop, hes])
  have HN := Lib.hid (show i + (n - (i + 1)) = n1 by omega)
  have HE := Lib.hid (show (es.take i).flatMap Nd.cells ++ (es.drop (i + 1)).flatMap Nd.cells = (es.eraseIdx i).flatMap Nd.cells by rw [← List.flatMap_append, List.eraseIdx_eq_take_drop_succ])
  have HD := Lib.hid hn1
  clear h hes hn1
  have hic : i ≤ cap := by omega
  have hic' : (i : Int) ≤ (cap : Int) := by omega
  have hp0 : (0 : Int) ≤ (i : Int) + 1 := by omega
  have hp1 : (i : Int) + 1 ≤ (n : Int) := by omega
  have hp2 : ((i : Int) + 1).toNat = i + 1 := by omega
  have hp3 : (n : Int) ≤ (cap : Int) := by omega
  have hroom : i + (n - (i + 1)) ≤ cap := by omega
  have hbytes : (i + (n - (i + 1))) * 56 ≤ 140737488355328 := by omega
  go_enter Tryz.func112, Tryz.ntmps112
  go_wp2
  go_region_law (refine step_append_in rfl (.tmp 22) (.tmp 25) el_i rfl (c := cap - (i + 1)) ?hs ?hx HO.out HL.out HR.out (fl_one el_e _) hroom hbytes ?_; (case hs => simp [Act.eval, Act.put]); (case hx => simp [Act.eval, Act.put]); rw [HN.out, HE.out]; intro w2 hx hch; have H2 := Lib.hid (And.intro hx hch); clear hx hch)
  have g1 : (n1 : Int) ≤ (n : Int) := by have := HD.out; omega
  have g2 : ¬ cap = n1 := by have := HD.out; omega
  have g3 : n1 ≤ n := by have := HD.out; omega
  have g4 : 0 < n - n1 := by have := HD.out; omega
  have g5 : n1 + (n - n1) ≤ cap := by have := HD.out; omega
  go_wp2_with (refine wpList_clear' rfl (.tmp 31) el_i rfl rfl rfl H2.out.1 g4 g5 zero_one' ?_; intro w3 hx hch; have H3 := Lib.hid (And.intro hx hch); clear hx hch)
  all_goals (
    go_ret
    exact ⟨rfl, H3.out.1, ((Chg.refl (· = b) w).drew.trans H2.out.2 (by rintro i _ ⟨a, ha, e⟩; cases ha; exact e.symm)).trans H3.out.2 (fun _ _ h => h)⟩)

def delK : List Pl → ByteArray → List Pl
  | [], _ => []
  | x :: l, key => if cmpB x.key key = 0 then l else x :: delK l key
theorem delK_at : ∀ {ps : List Pl} {key : ByteArray} {i : Nat} {x : Pl}, LoP key ps i → ps[i]? = some x → cmpB x.key key = 0 → delK ps key = ps.eraseIdx i
  | [], _, _, _, _, hx, _ => by simp at hx
  | y :: ps, key, 0, x, _, hx, h0 => by simp at hx; subst hx; rw [delK, if_pos h0]; rfl
  | y :: ps, key, i + 1, x, hlo, hx, h0 => by
    have h1 := hlo 0 y (by omega) rfl
    rw [delK, if_neg (by omega), delK_at (i := i) (fun k z hk hz => hlo (k + 1) z (by omega) (by simpa using hz)) (by simpa using hx) h0]
    rfl
def delP (l : List Pl) (key : ByteArray) (want : Nat) : List Pl × Int := match lookP l key with
  | none => (l, 11)
  | some x => if x.ver ≠ want then (l, 13) else (delK l key, 0)
theorem delK_sub (l : List Pl) (key : ByteArray) : (delK l key).Sublist l := by
  induction l with
  | nil => exact List.Sublist.refl _
  | cons e l ih =>
    rw [delK]
    split
    · exact List.sublist_cons_self _ _
    · exact ih.cons_cons _
theorem Fine.sub {l m : List Pl} (h : Fine l) (hs : m.Sublist l) : Fine m :=
  ⟨List.Pairwise.sublist hs h.sorted, Nat.le_trans hs.length_le h.len, fun x hx => h.body x (hs.subset hx), fun x hx => h.ver x (hs.subset hx), fun x hx => h.own x (hs.subset hx)⟩
theorem Fine.dels {l : List Pl} (h : Fine l) (key : ByteArray) (want : Nat) : Fine (delP l key want).1 := by
  unfold delP
  split
  · exact h
  · split
    · exact h
    · exact h.sub (delK_sub l key)
/-- A list whose nodes are some of the old ones is laid in the old place. -/
theorem less_end {w W w3 : World} {p n n1 cap b off : Nat} {l m : List Nd} {ps qs : List Pl} {F : List Nat} (h : TreeIs w p (some ⟨b, off, none⟩) n cap l ps F) (hbW : Chg (fun _ => False) w W) (hm : ∀ e ∈ m, e ∈ l) (hq : m.map Nd.pl = qs)
    (ho : Own w3 4 (some ⟨b, off, none⟩) n1 cap (m.flatMap Nd.cells)) (hch : Chg (· = b) W w3) : Wrote w (w3.setCell ⟨p, 0, none⟩ (.slice (some ⟨b, off, none⟩) n1 cap)) p qs F := by
  have hbF : b ∈ F := h.bF b (mem_blk.2 ⟨_, rfl, rfl⟩)
  have hpb : p ≠ b := fun e => h.apart (mem_blk.2 ⟨_, rfl, e.symm⟩)
  have hset := Chg.one w3 p 0 (.slice (some ⟨b, off, none⟩) n1 cap)
  have hC3 : Chg (· ∈ F) w w3 := (hbW.to (fun _ h => h.elim)).trans hch (fun k _ e => e ▸ hbF)
  refine ⟨F, ⟨some ⟨b, off, none⟩, n1, cap, m, ⟨hq, heap_set (hch.heap (hbW.heap h.heap (fun h => h)) hpb) 0 _, ho.keep hset (fun a ha e => by cases ha; exact hpb e.symm), h.apart, fun e he => ?_, h.pF, h.bF, fun k hk => ?_⟩⟩, hC3.set h.pF 0 _, fun k hk => .inl hk⟩
  · obtain ⟨b1, b2, b3⟩ := h.body e (hm e he)
    exact ⟨hset.row (hch.row (hbW.row b1 (fun _ _ h => h)) (fun a ha e => (b3 a ha).2.2 (mem_blk.2 ⟨_, rfl, e.symm⟩))) (fun a ha h => (b3 a ha).2.1 h), b2, b3⟩
  · have := h.lt k hk
    have := hC3.size
    have := hset.size
    omega
set_option maxHeartbeats 1000000 in
theorem delete_none (p : Nat) (ps : List Pl) (F : List Nat) (key : ByteArray) (want : Value) (w : World) (h : TreeAt w p ps F) (hf : Fine ps) (hl : lookP ps key = none) :
    Calls Tryz.prog 81 #[.pointer (some ⟨p, 0, none⟩), .string key, want] w fun r w' => r = .returned (.int .i64 11) ∧ Below w.heap.size w w' := by
  obtain ⟨lo, n, cap, l, h⟩ := h
  have HFD := Lib.hid (find_any p lo n cap l ps F key w h hf.sorted (Nat.le_trans hf.len (by decide)))
  clear h
  go_enter Tryz.func81, Tryz.ntmps81
  go_wp2_with fail
  (with_reducible refine HFD.out.mono ?_)
  rintro r w2 ⟨i, fd, rfl, hb2, hin, hlo, hhi, hfd⟩
  obtain rfl : fd = false := by
    cases fd with
    | false => rfl
    | true =>
      obtain ⟨x, hx, h0⟩ := hfd.1 rfl
      rw [look_some hlo hx h0] at hl; cases hl
  have H2 := Lib.hid hb2
  clear hb2 hin hlo hhi hfd
  go_wp2
  go_ret
  exact ⟨rfl, H2.out⟩
set_option maxHeartbeats 2000000 in
theorem delete_ok (p : Nat) (ps : List Pl) (F : List Nat) (key : ByteArray) (x : Pl) (want : Nat) (w : World) (h : TreeAt w p ps F) (hf : Fine ps) (hl : lookP ps key = some x) (hv : x.ver = want) :
    Calls Tryz.prog 81 #[.pointer (some ⟨p, 0, none⟩), .string key, .int .u64 (want : Int)] w fun r w' => r = .returned (.int .i64 0) ∧ Wrote w w' p (delK ps key) F := by
  obtain ⟨lo, n, cap, l, h⟩ := h
  have HFD := Lib.hid (find_any p lo n cap l ps F key w h hf.sorted (Nat.le_trans hf.len (by decide)))
  have HI := Lib.hid h
  have h256 := hf.len
  clear h
  go_enter Tryz.func81, Tryz.ntmps81
  go_wp2_with fail
  (with_reducible refine HFD.out.mono ?_)
  rintro r w2 ⟨i, fd, rfl, hb2, hin, hlo, hhi, hfd⟩
  obtain rfl : fd = true := by
    cases fd with
    | true => rfl
    | false =>
      rw [look_no hf.sorted hlo hhi (fun h => by have := hfd.2 h; cases this)] at hl; cases hl
  obtain ⟨x', hx', h0⟩ := hfd.1 rfl
  obtain rfl : x' = x := by rw [look_some hlo hx' h0] at hl; exact Option.some.inj hl
  obtain ⟨e, he, rfl⟩ := HI.out.got hx'
  have HI2 := Lib.hid (HI.out.keep (Chg.of_below hb2 (fun _ => False)) (fun _ _ h => h))
  have hni := (List.getElem?_eq_some_iff.1 he).1
  have hnl := HI.out.len
  have hii : (i : Int) < (n : Int) := by omega
  have hi0 : (0 : Int) ≤ (i : Int) := by omega
  have hn4 : n ≤ 4096 := by omega
  obtain ⟨b, off, hlo', q0, q1, q2, q3⟩ := nd_at HI2.out.own.row he
  subst hlo'
  obtain ⟨z0, z2⟩ := cells1 HI2.out.heap
  have HDK := Lib.hid (And.intro (delK_at hlo hx' h0) (And.intro hb2 he))
  obtain ⟨n1, hn1⟩ : ∃ n1, n = n1 + 1 := ⟨n - 1, by omega⟩
  have HD := Lib.hid (delete_any b off n n1 cap l (i : Int) ((i : Int) + 1) i w2 HI2.out.own hnl.1 hn4 hn1 rfl (by omega) (by omega))
  clear hb2 hin hlo hhi hfd hx' h0 hl he hn1 hni hnl
  have hvI : (e.ver : Int) = (want : Int) := by have : e.ver = want := hv; omega
  clear hv
  generalize (e.ver : Int) = V at *
  subst hvI
  go_wp2_with (go_at_call 112; (with_reducible refine HD.out.mono ?_); rintro r w3 ⟨rfl, ho, hc⟩; have hp3 := hc.heap HI2.out.heap (fun e => HI2.out.apart (mem_blk.2 ⟨_, rfl, e.symm⟩)); obtain ⟨y0, y2⟩ := cells1 hp3; have H3 := Lib.hid (And.intro ho hc); clear ho hc hp3)
  go_ret
  refine ⟨rfl, less_end HI.out (Chg.of_below HDK.out.2.1 (fun _ => False)) (fun e he => (List.eraseIdx_sublist l i).subset he) ?_ H3.out.1 H3.out.2⟩
  rw [HDK.out.1, ← HI.out.map, map_erase]
set_option maxHeartbeats 2000000 in
theorem delete_old (p : Nat) (ps : List Pl) (F : List Nat) (key : ByteArray) (x : Pl) (want : Nat) (w : World) (h : TreeAt w p ps F) (hf : Fine ps) (hl : lookP ps key = some x) (hv : x.ver ≠ want) :
    Calls Tryz.prog 81 #[.pointer (some ⟨p, 0, none⟩), .string key, .int .u64 (want : Int)] w fun r w' => r = .returned (.int .i64 13) ∧ Below w.heap.size w w' := by
  obtain ⟨lo, n, cap, l, h⟩ := h
  have HFD := Lib.hid (find_any p lo n cap l ps F key w h hf.sorted (Nat.le_trans hf.len (by decide)))
  have HI := Lib.hid h
  have h256 := hf.len
  clear h
  go_enter Tryz.func81, Tryz.ntmps81
  go_wp2_with fail
  (with_reducible refine HFD.out.mono ?_)
  rintro r w2 ⟨i, fd, rfl, hb2, hin, hlo, hhi, hfd⟩
  obtain rfl : fd = true := by
    cases fd with
    | true => rfl
    | false =>
      rw [look_no hf.sorted hlo hhi (fun h => by have := hfd.2 h; cases this)] at hl; cases hl
  obtain ⟨x', hx', h0⟩ := hfd.1 rfl
  obtain rfl : x' = x := by rw [look_some hlo hx' h0] at hl; exact Option.some.inj hl
  obtain ⟨e, he, rfl⟩ := HI.out.got hx'
  have HI2 := Lib.hid (HI.out.keep (Chg.of_below hb2 (fun _ => False)) (fun _ _ h => h))
  have hni := (List.getElem?_eq_some_iff.1 he).1
  have hnl := HI.out.len
  have hii : (i : Int) < (n : Int) := by omega
  have hi0 : (0 : Int) ≤ (i : Int) := by omega
  have hn4 : n ≤ 4096 := by omega
  obtain ⟨b, off, hlo', q0, q1, q2, q3⟩ := nd_at HI2.out.own.row he
  subst hlo'
  obtain ⟨z0, z2⟩ := cells1 HI2.out.heap
  have HDK := Lib.hid (And.intro (delK_at hlo hx' h0) (And.intro hb2 he))
  obtain ⟨n1, hn1⟩ : ∃ n1, n = n1 + 1 := ⟨n - 1, by omega⟩
  have HD := Lib.hid (delete_any b off n n1 cap l (i : Int) ((i : Int) + 1) i w2 HI2.out.own hnl.1 hn4 hn1 rfl (by omega) (by omega))
  clear hb2 hin hlo hhi hfd hx' h0 hl he hn1 hni hnl
  have hvI : ((e.ver : Int) == (want : Int)) = false := by have : e.ver ≠ want := hv; simp; omega
  clear hv
  generalize (e.ver : Int) = V at *
  go_wp2
  go_ret
  exact ⟨rfl, HDK.out.2.1⟩
theorem delete_all (p : Nat) (ps : List Pl) (F : List Nat) (key : ByteArray) (want : Nat) (w : World) (h : TreeAt w p ps F) (hf : Fine ps) :
    Calls Tryz.prog 81 #[.pointer (some ⟨p, 0, none⟩), .string key, .int .u64 (want : Int)] w fun r w' => r = .returned (.int .i64 (delP ps key want).2) ∧ Wrote w w' p (delP ps key want).1 F := by
  unfold delP
  cases hl : lookP ps key with
  | none =>
    refine (delete_none p ps F key _ w h hf hl).mono ?_
    rintro r w' ⟨rfl, hb⟩
    exact ⟨rfl, .same h hb⟩
  | some x =>
    dsimp only
    by_cases hv : x.ver = want
    · rw [if_neg (by simpa using hv)]
      exact delete_ok p ps F key x want w h hf hl hv
    · rw [if_pos hv]
      refine (delete_old p ps F key x want w h hf hl hv).mono ?_
      rintro r w' ⟨rfl, hb⟩
      exact ⟨rfl, .same h hb⟩
/-! ### Drop -/
def dropP (l : List Pl) (own : Nat) : List Pl := if own = 0 then l else l.filter (fun x => !(x.own == own))
theorem Fine.drops {l : List Pl} (h : Fine l) (own : Nat) : Fine (dropP l own) := by
  unfold dropP
  split
  · exact h
  · exact h.sub List.filter_sublist
theorem drop_zero (p : Nat) (w : World) : Calls Tryz.prog 85 #[.pointer (some ⟨p, 0, none⟩), .int .u64 0] w fun r w' => r = .returned (.tuple #[]) ∧ Below w.heap.size w w' := by
  go_enter Tryz.func85, Tryz.ntmps85
  go_wp2
  go_end0
  exact ⟨rfl, (Below.refl _ w).alloc (Nat.le_refl _) _⟩
theorem drop_by (own : Nat) (l : List Nd) (c : Nat) : DelBy Tryz.prog 116 #[.pointer (some ⟨c, 0, none⟩)] Nd.val (fun e => e.own == own) l (fun _ F w => F = [c] ∧ w.heap[c]? = some (.cells #[.int .u64 (own : Int)] 28 (0, 0))) := by
  refine DelBy.pure l c _ _ (fun _ _ => rfl) ?_
  intro e w hc
  obtain ⟨xk, xb, xv, xw, xo, xc⟩ := e
  have hc' := heap_new (o := .cells #[.string xk, .slice xo xb.length xc, .int .u64 (xv : Int), .int .u64 (xw : Int)] 78) hc
  obtain ⟨z0, _⟩ := cells1 hc'
  show Calls Tryz.prog 116 #[.agg #[.string xk, .slice xo xb.length xc, .int .u64 (xv : Int), .int .u64 (xw : Int)], .pointer (some ⟨c, 0, none⟩)] w _
  clear hc hc'
  by_cases h1 : xw = own
  · subst h1
    go_enter Tryz.func116, Tryz.ntmps116
    go_wp2
    go_ret
    exact ⟨by simp, (Below.refl _ w).alloc (Nat.le_refl _) _⟩
  · have h1i : ((xw : Int) == (own : Int)) = false := by simp; omega
    have h1b : (xw == own) = false := by simpa using h1
    go_enter Tryz.func116, Tryz.ntmps116
    go_wp2
    go_ret
    exact ⟨by simp [h1b], (Below.refl _ w).alloc (Nat.le_refl _) _⟩
theorem drop_end {w W w3 : World} {p n n1 cap : Nat} {lo : Option Addr} {l m : List Nd} {ps qs : List Pl} {F : List Nat} (h : TreeIs w p lo n cap l ps F) (hbW : Chg (fun _ => False) w W) (hm : ∀ e ∈ m, e ∈ l) (hq : m.map Nd.pl = qs) {c : Nat} (hc : w.heap.size ≤ c)
    (ho : Own w3 4 lo n1 cap (m.flatMap Nd.cells)) (hch : Chg (fun i => i ∈ [c] ∨ ∃ a, lo = some a ∧ a.block = i) W w3) : Wrote w (w3.setCell ⟨p, 0, none⟩ (.slice lo n1 cap)) p qs F := by
  have hset := Chg.one w3 p 0 (.slice lo n1 cap)
  have hpc : p ≠ c := by have := h.lt p h.pF; omega
  have hC3 : Chg (· ∈ F) w w3 := (hbW.to (fun _ h => h.elim)).trans hch (fun k hk e => by
    rcases e with e | ⟨a, ha, e⟩
    · rw [List.mem_singleton] at e; omega
    · exact h.bF k (mem_blk.2 ⟨a, ha, e⟩))
  have hno : ∀ k ∈ F, k ∉ blk lo → ¬ (k ∈ [c] ∨ ∃ a, lo = some a ∧ a.block = k) := fun k hk hn e => by
    rcases e with e | ⟨a, ha, e⟩
    · rw [List.mem_singleton] at e; have := h.lt k hk; omega
    · exact hn (mem_blk.2 ⟨a, ha, e⟩)
  refine ⟨F, ⟨lo, n1, cap, m, ⟨hq, heap_set (hch.heap (hbW.heap h.heap (fun h => h)) (hno p h.pF h.apart)) 0 _, ho.keep hset (fun a ha e => h.apart (mem_blk.2 ⟨a, ha, e⟩)), h.apart, fun e he => ?_, h.pF, h.bF, fun k hk => ?_⟩⟩, hC3.set h.pF 0 _, fun k hk => .inl hk⟩
  · obtain ⟨b1, b2, b3⟩ := h.body e (hm e he)
    exact ⟨hset.row (hch.row (hbW.row b1 (fun _ _ h => h)) (fun a ha => hno _ (b3 a ha).1 (b3 a ha).2.2)) (fun a ha h => (b3 a ha).2.1 h), b2, b3⟩
  · have := h.lt k hk
    have := hC3.size
    have := hset.size
    omega
set_option maxHeartbeats 1000000 in
theorem drop_some (p : Nat) (ps : List Pl) (F : List Nat) (own : Nat) (w : World) (h : TreeAt w p ps F) (hf : Fine ps) (ho : own ≠ 0) :
    Calls Tryz.prog 85 #[.pointer (some ⟨p, 0, none⟩), .int .u64 (own : Int)] w fun r w' => r = .returned (.tuple #[]) ∧ Wrote w w' p (ps.filter (fun x => !(x.own == own))) F := by
  obtain ⟨lo, n, cap, l, h⟩ := h
  have hoI : ((own : Int) == 0) = false := by simp; omega
  have hA := (Chg.refl (fun _ => False) w).alloc (.cells #[.int .u64 (own : Int)] 28)
  have h256 : n ≤ 1000000 := by have := h.len.2; have := hf.len; omega
  have HD := Lib.hid (delfunc_any lo n cap l [w.heap.size] (w.alloc (.cells #[.int .u64 (own : Int)] 28)) (h.own.keep hA (fun _ _ h => h)) (drop_by own l w.heap.size) ⟨rfl, heap_top w _⟩ (fun a ha hk => by have := (h.own.at_ a ha).2.1; rw [List.mem_singleton] at hk; omega) h256)
  have hmf : ∀ (fn : Fn) (first cap : Array Value) (w : World), (Instr.makeFunc fn first cap).run Tryz.prog w = .ok (.func fn first cap) w := fun _ _ _ _ => rfl
  obtain ⟨z0, z2⟩ := cells1 (hA.heap h.heap (fun h => h))
  have HI := Lib.hid (And.intro h hA)
  clear h hA
  go_enter Tryz.func85, Tryz.ntmps85
  go_wp2_with (go_at_call 115; (with_reducible refine HD.out.mono ?_); rintro r w3 ⟨k, F3, rfl, ho3, hs3, hc3, hg3⟩; have hp3 := hc3.heap (HI.out.2.heap HI.out.1.heap (fun h => h)) (fun e => by rcases e with e | ⟨a, ha, e⟩; (rw [List.mem_singleton] at e; have := HI.out.1.lt p HI.out.1.pF; omega); exact HI.out.1.apart (mem_blk.2 ⟨a, ha, e⟩)); obtain ⟨y0, y2⟩ := cells1 hp3; have H3 := Lib.hid (And.intro ho3 hc3); clear ho3 hs3 hc3 hg3 hp3)
  go_end0
  refine ⟨rfl, drop_end HI.out.1 HI.out.2 (fun e he => (List.mem_filter.1 he).1) ?_ (Nat.le_refl _) H3.out.1 H3.out.2⟩
  rw [← HI.out.1.map, List.filter_map]
  rfl
theorem drop_all (p : Nat) (ps : List Pl) (F : List Nat) (own : Nat) (w : World) (h : TreeAt w p ps F) (hf : Fine ps) :
    Calls Tryz.prog 85 #[.pointer (some ⟨p, 0, none⟩), .int .u64 (own : Int)] w fun r w' => r = .returned (.tuple #[]) ∧ Wrote w w' p (dropP ps own) F := by
  unfold dropP
  by_cases h0 : own = 0
  · subst h0
    rw [if_pos rfl]
    refine (drop_zero p w).mono ?_
    rintro r w' ⟨rfl, hb⟩
    exact ⟨rfl, .same h hb⟩
  · rw [if_neg h0]
    exact drop_some p ps F own w h hf h0
end Go.Proofs.YtackmgmaippajaaGreat.Tr
