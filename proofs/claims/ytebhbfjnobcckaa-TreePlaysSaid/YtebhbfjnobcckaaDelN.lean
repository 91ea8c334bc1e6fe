/-
  slices.IndexFunc, slices.DeleteFunc of nodes.
-/
import Derived.Test.YtebhbfjnobcckaaNd
import Derived.Test.YtebhbfjnobcckaaInsN
namespace Go.Proofs.Ytebhbfjnobcckaa
open Go Go.RowKit

theorem zero_one' : ∀ u ∈ (.agg #[.string ⟨#[]⟩, .slice none 0 0, .int .u64 0, .int .u64 0] : Value).cells.toList, u.oneCell' = true := by
  intro u hu
  simp [Value.cells] at hu
  rcases hu with rfl | rfl | rfl <;> rfl
theorem el_at {w : World} {lo : Option Addr} {n cap i : Nat} {es : List Nd} {e : Nd} (ho : Own w 4 lo n cap (es.flatMap Nd.cells)) (he : es[i]? = some e) :
    ∃ b off, lo = some ⟨b, off, none⟩ ∧ ∀ v0 v1 v2 v3, e.cells = [v0, v1, v2, v3] → w.cell? ⟨b, off + i * 4, none⟩ = some v0 ∧ w.cell? ⟨b, off + i * 4 + 1, none⟩ = some v1 ∧ w.cell? ⟨b, off + i * 4 + 2, none⟩ = some v2 ∧ w.cell? ⟨b, off + i * 4 + 3, none⟩ = some v3 ∧ w.frozen? ⟨b, off + i * 4, none⟩ = false ∧ w.frozen? ⟨b, off + i * 4 + 1, none⟩ = false ∧ w.frozen? ⟨b, off + i * 4 + 2, none⟩ = false ∧ w.frozen? ⟨b, off + i * 4 + 3, none⟩ = false := by
  obtain ⟨b, off, rfl, h⟩ := fl_at el_e ho he
  refine ⟨b, off, rfl, fun v0 v1 v2 v3 hc => ?_⟩
  rw [hc] at h
  have h0 := h 0 v0 rfl
  have h1 := h 1 v1 rfl
  have h2 := h 2 v2 rfl
  have h3 := h 3 v3 rfl
  simp only [← Nat.add_assoc, Nat.add_zero] at h0 h1 h2 h3
  exact ⟨h0.1, h1.1, h2.1, h3.1, h0.2, h1.2, h2.2, h3.2⟩
theorem take_next {es : List Nd} {k : Nat} {e : Nd} (h : es[k]? = some e) : es.take k ++ [e] = es.take (k + 1) := by rw [List.take_add_one, h]; rfl

/-- Behind a predicate's calls. -/
theorem at_none {lo : Option Addr} {F F' : List Nat} {w w1 : World} (h : ∀ a, lo = some a → a.block ∉ F ∧ a.block < w.heap.size) (hF : ∀ k ∈ F', k ∈ F ∨ w.heap.size ≤ k) : ∀ a, lo = some a → a.block ∉ F' := by
  intro a ha hk
  rcases hF _ hk with h1 | h1
  · exact (h a ha).1 h1
  · have := (h a ha).2; omega
set_option maxHeartbeats 2000000 in
set_option maxRecDepth 100000 in
theorem index_any {f : Nat} {caps : Array Value} {pr : Nd → Bool} {St : List Nd → List Nat → World → Prop} (lo : Option Addr) (n cap : Nat) (es : List Nd) (F : List Nat) (w : World) (ho : Own w 4 lo n cap (es.flatMap Nd.cells)) (h : DelBy Try.prog f caps Nd.val pr es St) (h0 : St [] F w) (hF : ∀ a, lo = some a → a.block ∉ F) (hn : n ≤ 1000000) :
    Calls Try.prog 44 #[.slice lo n cap, .func (.func f) #[] caps] w fun r w' => ∃ (R : Int) (F' : List Nat), r = .returned (.int .i64 R) ∧ Chg (· ∈ F) w w' ∧ (∀ k ∈ F', k ∈ F ∨ w.heap.size ≤ k) ∧
      ((R = -1 ∧ (∀ e ∈ es, pr e = false) ∧ St es F' w') ∨ (∃ (i : Nat) (x : Nd), R = (i : Int) ∧ es[i]? = some x ∧ pr x = true ∧ (∀ y ∈ es.take i, pr y = false) ∧ St (es.take (i + 1)) F' w')) := by
  have hes := fl_own_len el_e ho
  have hcf := h.fn
  have HH := Lib.hid (And.intro ho (And.intro h (And.intro h0 (And.intro hes (And.intro hF (fun a (ha : lo = some a) => (ho.at_ a ha).2.1))))))
  clear ho h h0 hes hF
  go_enter Try.func44, Try.ntmps44
  go_wp2
  go_loopg [8] n (fun g v wr => ∃ (k : Nat) (F1 : List Nat), g + k = n ∧ v = .int .i64 k ∧ Chg (· ∈ F) w wr ∧ (∀ k ∈ F1, k ∈ F ∨ w.heap.size ≤ k) ∧ St (es.take k) F1 wr ∧ ∀ y ∈ es.take k, pr y = false)
  case atStart => exact ⟨0, F, by omega, rfl, Chg.refl _ _, fun _ h => .inl h, HH.out.2.2.1, by simp⟩
  case round =>
    obtain ⟨k, F1, hgk, rfl, hch, hgr, hst, hno⟩ := hrel
    by_cases hk : k < n
    · obtain ⟨e, he⟩ : ∃ e, es[k]? = some e := ⟨_, List.getElem?_eq_getElem (by rw [HH.out.2.2.2.1]; exact hk)⟩
      have how := HH.out.1.keep hch (fun a ha => HH.out.2.2.2.2.1 a ha)
      obtain ⟨b, off, hlo, hcs⟩ := el_at how he
      have HB := Lib.hid (HH.out.2.1.by' (es.take k) e F1 wr (by rw [take_next he]; exact List.take_prefix _ _) hst)
      have hpr : pr e = true ∨ pr e = false := by cases pr e <;> simp
      have HS := Lib.hid (And.intro hch (And.intro hno (And.intro he hgr)))
      obtain ⟨xk, xb, xv, xw, xo, xc⟩ := e
      obtain ⟨c0, c1, c2, c3, _⟩ := hcs _ _ _ _ rfl
      clear hch hst hno he how hcs hgr
      subst hlo
      rcases hpr with hpr | hpr
      · have HP := Lib.hid hpr
        have HC := Lib.hid (show Calls Try.prog f (#[.agg #[.string xk, .slice xo xb.length xc, .int .u64 (xv : Int), .int .u64 (xw : Int)]] ++ caps) wr (fun r w2 => r = .returned (.bool true) ∧ ∃ F', St (es.take k ++ [_]) F' w2 ∧ Chg (· ∈ F1) wr w2 ∧ ∀ k ∈ F', k ∈ F1 ∨ wr.heap.size ≤ k) from hpr ▸ HB.out)
        clear hpr HB
        go_wp2_with ((with_reducible refine HC.out.mono ?_); rintro r w1 ⟨rfl, F2, hs1, hc1, hg1⟩; have H1 := Lib.hid (And.intro hs1 (And.intro hc1 hg1)); clear hs1 hc1 hg1)
        go_ret
        refine ⟨(k : Int), F2, rfl, HS.out.1.trans H1.out.2.1 ?_, ?_, .inr ⟨k, _, rfl, HS.out.2.2.1, HP.out, HS.out.2.1, ?_⟩⟩
        · intro i hi hi1
          rcases HS.out.2.2.2 i hi1 with h | h
          · exact h
          · omega
        · intro i hi
          rcases H1.out.2.2 i hi with h | h
          · exact HS.out.2.2.2 i h
          · exact .inr (Nat.le_trans HS.out.1.size h)
        · rw [← take_next HS.out.2.2.1]; exact H1.out.1
      · have HP := Lib.hid hpr
        have HC := Lib.hid (show Calls Try.prog f (#[.agg #[.string xk, .slice xo xb.length xc, .int .u64 (xv : Int), .int .u64 (xw : Int)]] ++ caps) wr (fun r w2 => r = .returned (.bool false) ∧ ∃ F', St (es.take k ++ [_]) F' w2 ∧ Chg (· ∈ F1) wr w2 ∧ ∀ k ∈ F', k ∈ F1 ∨ wr.heap.size ≤ k) from hpr ▸ HB.out)
        clear hpr HB
        go_wp2_with ((with_reducible refine HC.out.mono ?_); rintro r w1 ⟨rfl, F2, hs1, hc1, hg1⟩; have H1 := Lib.hid (And.intro hs1 (And.intro hc1 hg1)); clear hs1 hc1 hg1)
        go_roundg (gk - 1)
        case measure => omega
        case rel =>
          refine ⟨k + 1, F2, by omega, by go_num, HS.out.1.trans H1.out.2.1 ?_, ?_, ?_, ?_⟩
          · intro i hi hi1
            rcases HS.out.2.2.2 i hi1 with h | h
            · exact h
            · omega
          · intro i hi
            rcases H1.out.2.2 i hi with h | h
            · exact HS.out.2.2.2 i h
            · exact .inr (Nat.le_trans HS.out.1.size h)
          · rw [← take_next HS.out.2.2.1]; exact H1.out.1
          · rw [← take_next HS.out.2.2.1]
            intro y hy
            rcases List.mem_append.1 hy with hy | hy
            · exact HS.out.2.1 y hy
            · rw [List.mem_singleton] at hy; subst hy; exact HP.out
    · have HS := Lib.hid (And.intro hch (And.intro hst (And.intro hno hgr)))
      clear hch hst hno hgr
      go_wp2
      go_ret
      have e1 : es.take k = es := List.take_of_length_le (by rw [HH.out.2.2.2.1]; omega)
      refine ⟨-1, F1, rfl, HS.out.1, HS.out.2.2.2, .inl ⟨rfl, ?_, ?_⟩⟩
      · have := HS.out.2.2.1; rwa [e1] at this
      · have := HS.out.2.1; rwa [e1] at this
theorem index_none {f : Nat} {caps : Array Value} {pr : Nd → Bool} {St : List Nd → List Nat → World → Prop} (lo : Option Addr) (n cap : Nat) (es : List Nd) (F : List Nat) (w : World) (ho : Own w 4 lo n cap (es.flatMap Nd.cells)) (h : DelBy Try.prog f caps Nd.val pr es St) (h0 : St [] F w) (hF : ∀ a, lo = some a → a.block ∉ F) (hn : n ≤ 1000000) (hno : ∀ e ∈ es, pr e = false) :
    Calls Try.prog 44 #[.slice lo n cap, .func (.func f) #[] caps] w fun r w' => ∃ F', r = .returned (.int .i64 (-1)) ∧ Chg (· ∈ F) w w' ∧ (∀ k ∈ F', k ∈ F ∨ w.heap.size ≤ k) ∧ St es F' w' := by
  refine (index_any lo n cap es F w ho h h0 hF hn).mono ?_
  rintro r w' ⟨R, F', rfl, h1, h2, ⟨rfl, _, h3⟩ | ⟨i, x, rfl, hx, hp, _, _⟩⟩
  · exact ⟨F', rfl, h1, h2, h3⟩
  · rw [hno x (List.mem_of_getElem? hx)] at hp; cases hp
theorem index_some {f : Nat} {caps : Array Value} {pr : Nd → Bool} {St : List Nd → List Nat → World → Prop} (lo : Option Addr) (n cap : Nat) (es : List Nd) (F : List Nat) (w : World) (ho : Own w 4 lo n cap (es.flatMap Nd.cells)) (h : DelBy Try.prog f caps Nd.val pr es St) (h0 : St [] F w) (hF : ∀ a, lo = some a → a.block ∉ F) (hn : n ≤ 1000000)
    {i : Nat} {x : Nd} (hi : es[i]? = some x) (hx : pr x = true) (hno : ∀ y ∈ es.take i, pr y = false) :
    Calls Try.prog 44 #[.slice lo n cap, .func (.func f) #[] caps] w fun r w' => ∃ F', r = .returned (.int .i64 (i : Int)) ∧ Chg (· ∈ F) w w' ∧ (∀ k ∈ F', k ∈ F ∨ w.heap.size ≤ k) ∧ St (es.take (i + 1)) F' w' := by
  refine (index_any lo n cap es F w ho h h0 hF hn).mono ?_
  rintro r w' ⟨R, F', rfl, h1, h2, ⟨rfl, h4, h3⟩ | ⟨k, y, rfl, hy, hp, h4, h3⟩⟩
  · rw [h4 x (List.mem_of_getElem? hi)] at hx; cases hx
  · have hki : k = i := by
      rcases Nat.lt_trichotomy k i with h | h | h
      · have := hno y (List.mem_of_getElem? (i := k) (by rw [List.getElem?_take_of_lt h]; exact hy))
        rw [this] at hp; cases hp
      · exact h
      · have := h4 x (List.mem_of_getElem? (i := i) (by rw [List.getElem?_take_of_lt h]; exact hi))
        rw [this] at hx; cases hx
    subst hki
    exact ⟨F', rfl, h1, h2, h3⟩
theorem first_of (pr : Nd → Bool) (es : List Nd) : (∀ e ∈ es, pr e = false) ∨ ∃ (i : Nat) (x : Nd), es[i]? = some x ∧ pr x = true ∧ ∀ y ∈ es.take i, pr y = false := by
  induction es with
  | nil => exact .inl (by simp)
  | cons e es ih =>
    cases he : pr e with
    | true => exact .inr ⟨0, e, rfl, he, by simp⟩
    | false =>
      rcases ih with h | ⟨i, x, h1, h2, h3⟩
      · exact .inl (fun y hy => by rcases List.mem_cons.1 hy with rfl | hy; exact he; exact h y hy)
      · exact .inr ⟨i + 1, x, h1, h2, fun y hy => by rw [List.take_succ_cons] at hy; rcases List.mem_cons.1 hy with rfl | hy; exact he; exact h3 y hy⟩
theorem nd_set4 {E : Type} {cells : E → List Value} (h : Elem cells 4) (es : List E) (i : Nat) (e : E) (v0 v1 v2 v3 : Value) (hc : cells e = [v0, v1, v2, v3]) (hi : i < es.length) : ((((es.flatMap cells).set (i * 4) v0).set (i * 4 + 1) v1).set (i * 4 + 2) v2).set (i * 4 + 3) v3 = (es.set i e).flatMap cells := by
  induction es generalizing i with
  | nil => simp at hi
  | cons x es ih =>
    have hx := h.len x
    obtain ⟨a0, a1, a2, a3, hx⟩ : ∃ a0 a1 a2 a3, cells x = [a0, a1, a2, a3] := by
      match hl : cells x, hx with
      | [a0, a1, a2, a3], _ => exact ⟨a0, a1, a2, a3, rfl⟩
    cases i with
    | zero => simp [hx, hc]
    | succ i =>
      simp at hi
      rw [List.set_cons_succ, List.flatMap_cons, List.flatMap_cons, ← ih i hi, hx]
      rw [show (i + 1) * 4 = i * 4 + 1 + 1 + 1 + 1 by omega]
      simp
theorem el_iet {w : World} {b off n cap i : Nat} {xs : List Nd} (h : Own w 4 (some ⟨b, off, none⟩) n cap (xs.flatMap Nd.cells)) (e : Nd) (v0 v1 v2 v3 : Value) (hc : e.cells = [v0, v1, v2, v3]) (hi : i < xs.length) :
    Own ((((w.setCell ⟨b, off + i * 4, none⟩ v0).setCell ⟨b, off + i * 4 + 1, none⟩ v1).setCell ⟨b, off + i * 4 + 2, none⟩ v2).setCell ⟨b, off + i * 4 + 3, none⟩ v3) 4 (some ⟨b, off, none⟩) n cap ((xs.set i e).flatMap Nd.cells) := by
  have hl := fl_own_len el_e h
  rw [← nd_set4 el_e xs i e v0 v1 v2 v3 hc hi]
  have h1 := h.set (i * 4) v0 (by omega)
  have h2 := h1.set (i * 4 + 1) v1 (by omega)
  have h3 := h2.set (i * 4 + 2) v2 (by omega)
  have h4 := h3.set (i * 4 + 3) v3 (by omega)
  simpa only [Nat.add_assoc] using h4
set_option maxHeartbeats 4000000 in
set_option maxRecDepth 100000 in
theorem delfunc_any {f : Nat} {caps : Array Value} {pr : Nd → Bool} {St : List Nd → List Nat → World → Prop} (lo : Option Addr) (n cap : Nat) (es : List Nd) (F : List Nat) (w : World) (ho : Own w 4 lo n cap (es.flatMap Nd.cells)) (h : DelBy Try.prog f caps Nd.val pr es St) (h0 : St [] F w) (hF : ∀ a, lo = some a → a.block ∉ F) (hn : n ≤ 1000000) :
    Calls Try.prog 33 #[.slice lo n cap, .func (.func f) #[] caps] w fun r w' => ∃ (k : Nat) (F' : List Nat), r = .returned (.slice lo k cap) ∧ Own w' 4 lo k cap ((es.filter (fun e => !pr e)).flatMap Nd.cells) ∧ St es F' w' ∧
      Chg (fun i => i ∈ F ∨ ∃ a, lo = some a ∧ a.block = i) w w' ∧ (∀ k ∈ F', k ∈ F ∨ w.heap.size ≤ k) := by
  rcases first_of pr es with hno | ⟨i0, x, hi0, hpx, hno⟩
  · have HI := Lib.hid (index_none lo n cap es F w ho h h0 hF hn hno)
    have HH := Lib.hid (And.intro ho (And.intro hno hF))
    clear ho h h0 hF hno
    go_enter Try.func33, Try.ntmps33
    go_wp2_with (go_at_call 44; (with_reducible refine HI.out.mono ?_); rintro r w1 ⟨F1, rfl, hc, hg, hs⟩; have H1 := Lib.hid (And.intro hc (And.intro hg hs)); clear hc hg hs)
    go_ret
    have e1 : es.filter (fun e => !pr e) = es := List.filter_eq_self.2 (fun a ha => by rw [HH.out.2.1 a ha]; rfl)
    exact ⟨n, F1, rfl, by rw [e1]; exact HH.out.1.keep H1.out.1 (fun a ha => HH.out.2.2 a ha), H1.out.2.2, H1.out.1.to (fun k hk => .inl hk), H1.out.2.1⟩
  · have HI := Lib.hid (index_some lo n cap es F w ho h h0 hF hn hi0 hpx hno)
    have hes := fl_own_len el_e ho
    have hin : i0 < n := by rw [← hes]; exact (List.getElem?_eq_some_iff.1 hi0).1
    obtain ⟨b, off, rfl, _⟩ := el_at ho hi0
    have hbl := (ho.at_ _ rfl).2.1
    have hcf := h.fn
    have hcap := ho.le
    have e0 : es.take i0 = (es.take (i0 + 1)).filter (fun e => !pr e) := by
      rw [← take_next hi0, List.filter_append, List.filter_eq_self.2 (fun a ha => by rw [hno a ha]; rfl)]
      simp [hpx]
    have HH := Lib.hid (And.intro ho (And.intro h (And.intro hF (And.intro e0 (And.intro hes hbl)))))
    clear ho h h0 hF hno hpx hi0 e0 hes hbl
    go_enter Try.func33, Try.ntmps33
    go_wp2_with (go_at_call 44; (with_reducible refine HI.out.mono ?_); rintro r w1 ⟨F1, rfl, hc, hg, hs⟩; have H1 := Lib.hid (And.intro hc (And.intro hg hs)); clear hc hg hs)
    go_loopg [5, 6] (n - (i0 + 1)) (fun g vi vj wr => ∃ (i j : Nat) (xs : List Nd) (F1 : List Nat), g + j = n ∧ vi = .int .i64 i ∧ vj = .int .i64 j ∧ i < j ∧ Own wr 4 (some ⟨b, off, none⟩) n cap (xs.flatMap Nd.cells) ∧ xs.take i = (es.take j).filter (fun e => !pr e) ∧ xs.drop j = es.drop j ∧
      Chg (fun k => k ∈ F ∨ k = b) w wr ∧ St (es.take j) F1 wr ∧ (∀ k ∈ F1, k ∈ F ∨ w.heap.size ≤ k))
    case atStart =>
      exact ⟨i0, i0 + 1, es, F1, by omega, rfl, by go_num, by omega, HH.out.1.keep H1.out.1 (fun a ha => HH.out.2.2.1 a ha), HH.out.2.2.2.1, rfl, H1.out.1.to (fun k hk => .inl hk), H1.out.2.2, H1.out.2.1⟩
    case round =>
      obtain ⟨i, j, xs, F2, hgj, rfl, rfl, hij, hown, htake, hdrop, hch, hst, hgr⟩ := hrel
      have hxl := fl_own_len el_e hown
      by_cases hj : j < n
      · obtain ⟨e, he⟩ : ∃ e, es[j]? = some e := ⟨_, List.getElem?_eq_getElem (by rw [HH.out.2.2.2.2.1]; exact hj)⟩
        have hxe : xs[j]? = some e := by
          have h1 : (xs.drop j)[0]? = (es.drop j)[0]? := by rw [hdrop]
          rw [List.getElem?_drop, List.getElem?_drop] at h1
          simpa [he] using h1
        obtain ⟨y, hy⟩ : ∃ y, xs[i]? = some y := ⟨_, List.getElem?_eq_getElem (by omega)⟩
        obtain ⟨b', off', hlo, hcs⟩ := el_at hown hxe
        cases hlo
        have hpr : pr e = true ∨ pr e = false := by cases pr e <;> simp
        have hlt2 := HH.out.2.1.lt _ _ _ hst
        have hTF : wr.heap.size ∉ F2 := fun h => Nat.lt_irrefl _ (hlt2 _ h)
        have hbF : b ∉ F2 := fun h => by
          rcases hgr b h with h | h
          · exact HH.out.2.2.1 _ rfl h
          · have := HH.out.2.2.2.2.2; omega
        have HS := Lib.hid (And.intro hown (And.intro htake (And.intro hdrop (And.intro hch (And.intro hst (And.intro hgr (And.intro he (And.intro hxe (And.intro hy (And.intro hTF hbF))))))))))
        obtain ⟨xk, xb, xv, xw, xo, xc⟩ := e
        have hA := (Chg.refl (fun _ => False) wr).alloc (.cells #[.string xk, .slice xo xb.length xc, .int .u64 (xv : Int), .int .u64 (xw : Int)] 32)
        have hT := heap_top wr (.cells #[.string xk, .slice xo xb.length xc, .int .u64 (xv : Int), .int .u64 (xw : Int)] 32)
        have HB := Lib.hid (HH.out.2.1.by' (es.take j) _ F2 _ (by rw [take_next he]; exact List.take_prefix _ _) (HH.out.2.1.keep _ _ _ _ _ hst hA (fun _ _ h => h)))
        have HA := Lib.hid (And.intro hA hT)
        obtain ⟨c0, c1, c2, c3, _⟩ := hcs _ _ _ _ rfl
        clear hown htake hdrop hch hst hgr he hxe hy hTF hbF hA hT hcs hlt2
        rcases hpr with hpr | hpr
        · have HP := Lib.hid hpr
          have HC := Lib.hid (show Calls Try.prog f (#[.agg #[.string xk, .slice xo xb.length xc, .int .u64 (xv : Int), .int .u64 (xw : Int)]] ++ caps) (wr.alloc (.cells #[.string xk, .slice xo xb.length xc, .int .u64 (xv : Int), .int .u64 (xw : Int)] 32)) (fun r w2 => r = .returned (.bool true) ∧ ∃ F', St (es.take j ++ [_]) F' w2 ∧ Chg (· ∈ F2) _ w2 ∧ ∀ k ∈ F', k ∈ F2 ∨ _ ≤ k) from hpr ▸ HB.out)
          clear hpr HB
          go_wp2_with ((with_reducible refine HC.out.mono ?_); rintro r w2 ⟨rfl, F3, hs3, hc3, hg3⟩; have H3 := Lib.hid (And.intro hs3 (And.intro hc3 hg3)); clear hs3 hc3 hg3)
          go_roundg (gk - 1)
          case measure => omega
          case rel =>
            obtain ⟨hown, htake, hdrop, hch, hst, hgr, he, hxe, hy, hTF, hbF⟩ := HS.out
            have hc3 := H3.out.2.1
            refine ⟨i, j + 1, xs, F3, by omega, rfl, by go_num, by omega, (hown.keep HA.out.1 (fun _ _ h => h)).keep hc3 (fun a ha => by cases ha; exact hbF), ?_, ?_, ?_, ?_, ?_⟩
            · rw [← take_next he, List.filter_append, htake]
              simp [HP.out]
            · rw [← List.drop_drop, hdrop, List.drop_drop]
            · refine (hch.trans HA.out.1 (fun _ _ h => h.elim)).trans hc3 (fun k hk h => ?_)
              rcases hgr k h with h | h
              · exact .inl h
              · omega
            · rw [← take_next he]; exact H3.out.1
            · intro k hk
              have hsz := HA.out.1.size
              rcases H3.out.2.2 k hk with h | h
              · exact hgr k h
              · exact .inr (Nat.le_trans hch.size (Nat.le_trans hsz h))
        · have HP := Lib.hid hpr
          have HC := Lib.hid (show Calls Try.prog f (#[.agg #[.string xk, .slice xo xb.length xc, .int .u64 (xv : Int), .int .u64 (xw : Int)]] ++ caps) (wr.alloc (.cells #[.string xk, .slice xo xb.length xc, .int .u64 (xv : Int), .int .u64 (xw : Int)] 32)) (fun r w2 => r = .returned (.bool false) ∧ ∃ F', St (es.take j ++ [_]) F' w2 ∧ Chg (· ∈ F2) _ w2 ∧ ∀ k ∈ F', k ∈ F2 ∨ _ ≤ k) from hpr ▸ HB.out)
          clear hpr HB
          go_wp2_with ((with_reducible refine HC.out.mono ?_); rintro r w2 ⟨rfl, F3, hs3, hc3, hg3⟩; have hT2 := hc3.heap HA.out.2 HS.out.2.2.2.2.2.2.2.2.2.1; obtain ⟨t0, t1, t2, t3, _⟩ := cells4 hT2; have ho2 := (HS.out.1.keep HA.out.1 (fun _ _ h => h)).keep hc3 (fun a ha => (by cases ha; exact HS.out.2.2.2.2.2.2.2.2.2.2)); obtain ⟨b2, off2, hlo2, hcs2⟩ := el_at ho2 HS.out.2.2.2.2.2.2.2.2.1; cases hlo2; obtain ⟨s0, s1, s2, s3, s4, s5, s6, s7⟩ := hcs2 _ _ _ _ rfl; have H3 := Lib.hid (And.intro hs3 (And.intro hc3 (And.intro hg3 ho2))); clear hs3 hc3 hg3 hT2 ho2 hcs2)
          go_roundg (gk - 1)
          case measure => omega
          case rel =>
            obtain ⟨hown, htake, hdrop, hch, hst, hgr, he, hxe, hy, hTF, hbF⟩ := HS.out
            have hc3 := H3.out.2.1
            have hxl := fl_own_len el_e hown
            have hset := el_iet (i := i) H3.out.2.2.2 (⟨xk, xb, xv, xw, xo, xc⟩ : Nd) (.string xk) (.slice xo xb.length xc) (.int .u64 (xv : Int)) (.int .u64 (xw : Int)) rfl (by omega)
            have hcb := ((((Chg.refl (· = b) w2).set rfl (off + i * 4) (.string xk)).set rfl (off + i * 4 + 1) (.slice xo xb.length xc)).set rfl (off + i * 4 + 2) (.int .u64 (xv : Int))).set rfl (off + i * 4 + 3) (.int .u64 (xw : Int))
            have hw2 : Chg (fun k => k ∈ F ∨ k = b) w w2 := by
              refine (hch.trans HA.out.1 (fun _ _ h => h.elim)).trans hc3 (fun k hk h => ?_)
              rcases hgr k h with h | h
              · exact .inl h
              · omega
            have hg3 : ∀ k ∈ F3, k ∈ F ∨ w.heap.size ≤ k := by
              intro k hk
              have hsz := HA.out.1.size
              rcases H3.out.2.2.1 k hk with h | h
              · exact hgr k h
              · exact .inr (Nat.le_trans hch.size (Nat.le_trans hsz h))
            have hbF3 : ∀ k ∈ F3, ¬ k = b := by
              intro k hk e
              subst e
              rcases hg3 k hk with h | h
              · exact HH.out.2.2.1 _ rfl h
              · have := HH.out.2.2.2.2.2; omega
            refine ⟨i + 1, j + 1, xs.set i (⟨xk, xb, xv, xw, xo, xc⟩ : Nd), F3, by omega, by go_num, by go_num, by omega, hset, ?_, ?_, hw2.trans hcb (fun k _ h => .inr h), ?_, hg3⟩
            · rw [← take_next he, List.filter_append, ← htake, List.take_succ_eq_append_getElem (by rw [List.length_set]; omega), List.getElem_set_self, List.take_set_of_le (Nat.le_refl _)]
              simp [HP.out]
            · rw [List.drop_set_of_lt (by omega), ← List.drop_drop, hdrop, List.drop_drop]
            · rw [← take_next he]; exact HH.out.2.1.keep _ _ _ _ _ H3.out.1 hcb hbF3
      · have e1 : es.take j = es := List.take_of_length_le (by rw [HH.out.2.2.2.2.1]; omega)
        rw [e1] at htake hst
        have hin' : i < n := by omega
        have hcut := hown.cut (m := i) (c := cap) (by omega) (by omega) (Nat.le_refl _)
        rw [fl_take el_e, htake] at hcut
        have HS := Lib.hid (And.intro hcut (And.intro hch (And.intro hst hgr)))
        clear hown htake hdrop hch hst hgr hcut
        have g1 : (i : Int) ≤ (n : Int) := by omega
        have g2 : ¬ cap = i := by omega
        have g3 : i ≤ n := by omega
        have g4 : 0 < n - i := by omega
        have g5 : i + (n - i) ≤ cap := by omega
        have g6 : (i : Int) ≤ (cap : Int) := by omega
        have g7 : i ≤ cap := by omega
        go_wp2_with (refine wpList_clear' rfl (.tmp 38) el_i rfl rfl rfl HS.out.1 g4 g5 zero_one' ?_; intro w3 hx hch; have H3 := Lib.hid (And.intro hx hch); clear hx hch)
        go_ret
        refine ⟨i, F2, rfl, H3.out.1, HH.out.2.1.keep _ _ _ _ _ HS.out.2.2.1 H3.out.2 ?_, ?_, HS.out.2.2.2⟩
        · intro k hk e
          subst e
          rcases HS.out.2.2.2 k hk with h | h
          · exact HH.out.2.2.1 _ rfl h
          · have := HH.out.2.2.2.2.2; omega
        · refine (HS.out.2.1.to (fun k h => ?_)).trans H3.out.2 (fun k _ h => .inr ⟨_, rfl, h.symm⟩)
          rcases h with h | h
          · exact .inl h
          · exact .inr ⟨_, rfl, h.symm⟩
end Go.Proofs.Ytebhbfjnobcckaa
