/-
  JOINED BY fam.py out of: DelS, Lease, LeaseB, LeaseC, LeaseD, LeaseE.
-/
import Derived.Test.YtackmgmaippajaaGreatProg
import Derived.Test.YtackmgmaippajaaGreatFB
import Derived.Deep.LoopGhost
import Derived.Deep.QuietTactic
import Derived.BigQuiet
import Derived.WalkLawsBesides
import Derived.WalkSpells
import Derived.Lib.SliceRun
import Derived.Deep.DeepCutAuto
import Derived.Deep.CutBlock
import Derived.Deep.RegionLaw
import Derived.Deep.RegionWith
import Derived.Handy
import Derived.StillTailTactics
-- part DelS
namespace Go.Proofs.YtackmgmaippajaaGreat.Ls
set_option maxRecDepth 100000
open Go Go.RowKit

/-- A session. -/
structure Sess where
  id : Nat
  ends : Nat
  life : Nat
def Sess.cells (e : Sess) : List Value := [.int .u64 (e.id : Int), .int .u64 (e.ends : Int), .int .u64 (e.life : Int)]
def Sess.val (e : Sess) : Value := .agg #[.int .u64 (e.id : Int), .int .u64 (e.ends : Int), .int .u64 (e.life : Int)]
theorem el_e : Elem Sess.cells 3 := ⟨fun _ => rfl, by decide, fun e u hu => by simp [Sess.cells] at hu; rcases hu with rfl | rfl | rfl <;> rfl⟩
theorem heap_top (w : World) (o : Obj) : (w.alloc o).heap[w.heap.size]? = some o := by show (w.heap.push o)[w.heap.size]? = _; simp
theorem size_alloc (w : World) (o : Obj) : (w.alloc o).heap.size = w.heap.size + 1 := by show (w.heap.push o).size = _; simp
theorem cells3 {w : World} {p : Nat} {a b c : Value} {t : TypeId} (h : w.heap[p]? = some (.cells #[a, b, c] t (0, 0))) :
    w.cell? ⟨p, 0, none⟩ = some a ∧ w.cell? ⟨p, 1, none⟩ = some b ∧ w.cell? ⟨p, 2, none⟩ = some c ∧ ∀ i, w.frozen? ⟨p, i, none⟩ = false := by
  have h0 := heap_cell h 0
  have h1 := heap_cell h 1
  have h2 := heap_cell h 2
  simp at h0 h1 h2
  exact ⟨h0, h1, h2, fun i => heap_frozen h i⟩
theorem cells1 {w : World} {p : Nat} {a : Value} {t : TypeId} (h : w.heap[p]? = some (.cells #[a] t (0, 0))) : w.cell? ⟨p, 0, none⟩ = some a ∧ ∀ i, w.frozen? ⟨p, i, none⟩ = false := by
  have h0 := heap_cell h 0
  simp at h0
  exact ⟨h0, fun i => heap_frozen h i⟩

theorem el_s : ElemOf Tryz.prog 32 96 (.agg #[.int .u64 0, .int .u64 0, .int .u64 0]) 3 24 := .mk' Tryz.underlying32 (by kernel_rfl) rfl (by decide)
theorem zero_one' : ∀ u ∈ (.agg #[.int .u64 0, .int .u64 0, .int .u64 0] : Value).cells.toList, u.oneCell' = true := by
  intro u hu
  simp [Value.cells] at hu
  first | (subst hu; rfl) | (rcases hu with rfl | rfl <;> rfl) | (rcases hu with rfl | rfl | rfl <;> rfl)
theorem el_at {w : World} {lo : Option Addr} {n cap i : Nat} {es : List Sess} {e : Sess} (ho : Own w 3 lo n cap (es.flatMap Sess.cells)) (he : es[i]? = some e) :
    ∃ b off, lo = some ⟨b, off, none⟩ ∧ ∀ v0 v1 v2, e.cells = [v0, v1, v2] → w.cell? ⟨b, off + i * 3, none⟩ = some v0 ∧ w.cell? ⟨b, off + i * 3 + 1, none⟩ = some v1 ∧ w.cell? ⟨b, off + i * 3 + 2, none⟩ = some v2 ∧ w.frozen? ⟨b, off + i * 3, none⟩ = false ∧ w.frozen? ⟨b, off + i * 3 + 1, none⟩ = false ∧ w.frozen? ⟨b, off + i * 3 + 2, none⟩ = false := by
  obtain ⟨b, off, rfl, h⟩ := fl_at el_e ho he
  refine ⟨b, off, rfl, fun v0 v1 v2 hc => ?_⟩
  rw [hc] at h
  have h0 := h 0 v0 rfl
  have h1 := h 1 v1 rfl
  have h2 := h 2 v2 rfl
  simp only [← Nat.add_assoc, Nat.add_zero] at h0 h1 h2
  exact ⟨h0.1, h1.1, h2.1, h0.2, h1.2, h2.2⟩
theorem take_next {es : List Sess} {k : Nat} {e : Sess} (h : es[k]? = some e) : es.take k ++ [e] = es.take (k + 1) := by rw [List.take_add_one, h]; rfl

/-- Behind a predicate's calls. -/
theorem at_none {lo : Option Addr} {F F' : List Nat} {w : World} (h : ∀ a, lo = some a → a.block ∉ F ∧ a.block < w.heap.size) (hF : ∀ k ∈ F', k ∈ F ∨ w.heap.size ≤ k) : ∀ a, lo = some a → a.block ∉ F' := by
  intro a ha hk
  rcases hF _ hk with h1 | h1
  · exact (h a ha).1 h1
  · have := (h a ha).2; omega
set_option maxHeartbeats 2000000 in
set_option maxRecDepth 100000 in
theorem index_any {f : Nat} {caps : Array Value} {pr : Sess → Bool} {St : List Sess → List Nat → World → Prop} (lo : Option Addr) (n cap : Nat) (es : List Sess) (F : List Nat) (w : World) (ho : Own w 3 lo n cap (es.flatMap Sess.cells)) (h : DelBy Tryz.prog f caps Sess.val pr es St) (h0 : St [] F w) (hF : ∀ a, lo = some a → a.block ∉ F) (hn : n ≤ 1000000) :
    Calls Tryz.prog 129 #[.slice lo n cap, .func (.func f) #[] caps] w fun r w' => ∃ (R : Int) (F' : List Nat), r = .returned (.int .i64 R) ∧ Chg (· ∈ F) w w' ∧ (∀ k ∈ F', k ∈ F ∨ w.heap.size ≤ k) ∧
      ((R = -1 ∧ (∀ e ∈ es, pr e = false) ∧ St es F' w') ∨ (∃ (i : Nat) (x : Sess), R = (i : Int) ∧ es[i]? = some x ∧ pr x = true ∧ (∀ y ∈ es.take i, pr y = false) ∧ St (es.take (i + 1)) F' w')) := by
  have hes := fl_own_len el_e ho
  have hcf := h.fn
  have HH := Lib.hid (And.intro ho (And.intro h (And.intro h0 (And.intro hes (And.intro hF (fun a (ha : lo = some a) => (ho.at_ a ha).2.1))))))
  clear ho h h0 hes hF
  go_enter Tryz.func129, Tryz.ntmps129
  go_wp2
  go_loopg [8] n (fun g v wr => ∃ (k : Nat) (F1 : List Nat), g + k = n ∧ v = .int .i64 k ∧ Chg (· ∈ F) w wr ∧ (∀ k ∈ F1, k ∈ F ∨ w.heap.size ≤ k) ∧ St (es.take k) F1 wr ∧ ∀ y ∈ es.take k, pr y = false)
  case atStart => exact ⟨0, F, by omega, rfl, Chg.refl _ _, fun _ h => .inl h, HH.out.2.2.1, by simp⟩
  case round =>
    obtain ⟨k, F1, hgk, rfl, hch, hgr, hst, hno⟩ := hrel
    by_cases hk : k < n
    · obtain ⟨e, he⟩ : ∃ e, es[k]? = some e := ⟨_, List.getElem?_eq_getElem (by rw [HH.out.2.2.2.1]; exact hk)⟩
      have how := HH.out.1.keep hch (fun a ha => HH.out.2.2.2.2.1 a ha)
      obtain ⟨b, off, hlo, hcs⟩ := el_at how he
      have HB := Lib.hid (HH.out.2.1.by' (es.take k) e F1 wr (by rw [take_next he]; exact List.take_prefix _ _) hst)
      have hpr : pr e = true ∨ pr e = false := by cases pr e <;> simp
      have HS := Lib.hid (And.intro hch (And.intro hno (And.intro he hgr)))
      obtain ⟨x0, x1, x2⟩ := e
      obtain ⟨c0, c1, c2, _⟩ := hcs _ _ _ rfl
      clear hch hst hno he how hcs hgr
      subst hlo
      rcases hpr with hpr | hpr
      · have HP := Lib.hid hpr
        have HC := Lib.hid (show Calls Tryz.prog f (#[.agg #[.int .u64 (x0 : Int), .int .u64 (x1 : Int), .int .u64 (x2 : Int)]] ++ caps) wr (fun r w2 => r = .returned (.bool true) ∧ ∃ F', St (es.take k ++ [_]) F' w2 ∧ Chg (· ∈ F1) wr w2 ∧ ∀ k ∈ F', k ∈ F1 ∨ wr.heap.size ≤ k) from hpr ▸ HB.out)
        clear hpr HB
        go_wp2_with ((with_reducible refine HC.out.mono ?_); rintro r w1 ⟨rfl, F2, hs1, hc1, hg1⟩; have H1 := Lib.hid (And.intro hs1 (And.intro hc1 hg1)); clear hs1 hc1 hg1)
        go_ret
        refine ⟨(k : Int), F2, rfl, HS.out.1.trans H1.out.2.1 ?_, ?_, .inr ⟨k, _, rfl, HS.out.2.2.1, HP.out, HS.out.2.1, ?_⟩⟩
        · intro i hi hi1
          rcases HS.out.2.2.2 i hi1 with h | h
          · exact h
          · omega
        · intro i hi
          rcases H1.out.2.2 i hi with h | h
          · exact HS.out.2.2.2 i h
          · exact .inr (Nat.le_trans HS.out.1.size h)
        · rw [← take_next HS.out.2.2.1]; exact H1.out.1
      · have HP := Lib.hid hpr
        have HC := Lib.hid (show Calls Tryz.prog f (#[.agg #[.int .u64 (x0 : Int), .int .u64 (x1 : Int), .int .u64 (x2 : Int)]] ++ caps) wr (fun r w2 => r = .returned (.bool false) ∧ ∃ F', St (es.take k ++ [_]) F' w2 ∧ Chg (· ∈ F1) wr w2 ∧ ∀ k ∈ F', k ∈ F1 ∨ wr.heap.size ≤ k) from hpr ▸ HB.out)
        clear hpr HB
        go_wp2_with ((with_reducible refine HC.out.mono ?_); rintro r w1 ⟨rfl, F2, hs1, hc1, hg1⟩; have H1 := Lib.hid (And.intro hs1 (And.intro hc1 hg1)); clear hs1 hc1 hg1)
        go_roundg (gk - 1)
        case measure => omega
        case rel =>
          refine ⟨k + 1, F2, by omega, by go_num, HS.out.1.trans H1.out.2.1 ?_, ?_, ?_, ?_⟩
          · intro i hi hi1
            rcases HS.out.2.2.2 i hi1 with h | h
            · exact h
            · omega
          · intro i hi
            rcases H1.out.2.2 i hi with h | h
            · exact HS.out.2.2.2 i h
            · exact .inr (Nat.le_trans HS.out.1.size h)
          · rw [← take_next HS.out.2.2.1]; exact H1.out.1
          · rw [← take_next HS.out.2.2.1]
            intro y hy
            rcases List.mem_append.1 hy with hy | hy
            · exact HS.out.2.1 y hy
            · rw [List.mem_singleton] at hy; subst hy; exact HP.out
    · have HS := Lib.hid (And.intro hch (And.intro hst (And.intro hno hgr)))
      clear hch hst hno hgr
      go_wp2
      go_ret
      have e1 : es.take k = es := List.take_of_length_le (by rw [HH.out.2.2.2.1]; omega)
      refine ⟨-1, F1, rfl, HS.out.1, HS.out.2.2.2, .inl ⟨rfl, ?_, ?_⟩⟩
      · have := HS.out.2.2.1; rwa [e1] at this
      · have := HS.out.2.1; rwa [e1] at this
theorem index_none {f : Nat} {caps : Array Value} {pr : Sess → Bool} {St : List Sess → List Nat → World → Prop} (lo : Option Addr) (n cap : Nat) (es : List Sess) (F : List Nat) (w : World) (ho : Own w 3 lo n cap (es.flatMap Sess.cells)) (h : DelBy Tryz.prog f caps Sess.val pr es St) (h0 : St [] F w) (hF : ∀ a, lo = some a → a.block ∉ F) (hn : n ≤ 1000000) (hno : ∀ e ∈ es, pr e = false) :
    Calls Tryz.prog 129 #[.slice lo n cap, .func (.func f) #[] caps] w fun r w' => ∃ F', r = .returned (.int .i64 (-1)) ∧ Chg (· ∈ F) w w' ∧ (∀ k ∈ F', k ∈ F ∨ w.heap.size ≤ k) ∧ St es F' w' := by
  refine (index_any lo n cap es F w ho h h0 hF hn).mono ?_
  rintro r w' ⟨R, F', rfl, h1, h2, ⟨rfl, _, h3⟩ | ⟨i, x, rfl, hx, hp, _, _⟩⟩
  · exact ⟨F', rfl, h1, h2, h3⟩
  · rw [hno x (List.mem_of_getElem? hx)] at hp; cases hp
theorem index_some {f : Nat} {caps : Array Value} {pr : Sess → Bool} {St : List Sess → List Nat → World → Prop} (lo : Option Addr) (n cap : Nat) (es : List Sess) (F : List Nat) (w : World) (ho : Own w 3 lo n cap (es.flatMap Sess.cells)) (h : DelBy Tryz.prog f caps Sess.val pr es St) (h0 : St [] F w) (hF : ∀ a, lo = some a → a.block ∉ F) (hn : n ≤ 1000000)
    {i : Nat} {x : Sess} (hi : es[i]? = some x) (hx : pr x = true) (hno : ∀ y ∈ es.take i, pr y = false) :
    Calls Tryz.prog 129 #[.slice lo n cap, .func (.func f) #[] caps] w fun r w' => ∃ F', r = .returned (.int .i64 (i : Int)) ∧ Chg (· ∈ F) w w' ∧ (∀ k ∈ F', k ∈ F ∨ w.heap.size ≤ k) ∧ St (es.take (i + 1)) F' w' := by
  refine (index_any lo n cap es F w ho h h0 hF hn).mono ?_
  rintro r w' ⟨R, F', rfl, h1, h2, ⟨rfl, h4, h3⟩ | ⟨k, y, rfl, hy, hp, h4, h3⟩⟩
  · rw [h4 x (List.mem_of_getElem? hi)] at hx; cases hx
  · have hki : k = i := by
      rcases Nat.lt_trichotomy k i with h | h | h
      · have := hno y (List.mem_of_getElem? (i := k) (by rw [List.getElem?_take_of_lt h]; exact hy))
        rw [this] at hp; cases hp
      · exact h
      · have := h4 x (List.mem_of_getElem? (i := i) (by rw [List.getElem?_take_of_lt h]; exact hi))
        rw [this] at hx; cases hx
    subst hki
    exact ⟨F', rfl, h1, h2, h3⟩
theorem first_of (pr : Sess → Bool) (es : List Sess) : (∀ e ∈ es, pr e = false) ∨ ∃ (i : Nat) (x : Sess), es[i]? = some x ∧ pr x = true ∧ ∀ y ∈ es.take i, pr y = false := by
  induction es with
  | nil => exact .inl (by simp)
  | cons e es ih =>
    cases he : pr e with
    | true => exact .inr ⟨0, e, rfl, he, by simp⟩
    | false =>
      rcases ih with h | ⟨i, x, h1, h2, h3⟩
      · exact .inl (fun y hy => by rcases List.mem_cons.1 hy with rfl | hy; exact he; exact h y hy)
      · exact .inr ⟨i + 1, x, h1, h2, fun y hy => by rw [List.take_succ_cons] at hy; rcases List.mem_cons.1 hy with rfl | hy; exact he; exact h3 y hy⟩
theorem el_set {w : World} {b off n cap i : Nat} {xs : List Sess} (h : Own w 3 (some ⟨b, off, none⟩) n cap (xs.flatMap Sess.cells)) (e : Sess) (v0 v1 v2 : Value) (hc : e.cells = [v0, v1, v2]) (hi : i < xs.length) :
    Own (((w.setCell ⟨b, off + i * 3, none⟩ v0).setCell ⟨b, off + i * 3 + 1, none⟩ v1).setCell ⟨b, off + i * 3 + 2, none⟩ v2) 3 (some ⟨b, off, none⟩) n cap ((xs.set i e).flatMap Sess.cells) := by
  have hl := fl_own_len el_e h
  rw [← fl_set3 el_e xs i e v0 v1 v2 hc hi]
  have h1 := h.set (i * 3) v0 (by omega)
  have h2 := h1.set (i * 3 + 1) v1 (by omega)
  have h3 := h2.set (i * 3 + 2) v2 (by omega)
  simpa only [Nat.add_assoc] using h3
set_option maxHeartbeats 4000000 in
set_option maxRecDepth 100000 in
theorem delfunc_any {f : Nat} {caps : Array Value} {pr : Sess → Bool} {St : List Sess → List Nat → World → Prop} (lo : Option Addr) (n cap : Nat) (es : List Sess) (F : List Nat) (w : World) (ho : Own w 3 lo n cap (es.flatMap Sess.cells)) (h : DelBy Tryz.prog f caps Sess.val pr es St) (h0 : St [] F w) (hF : ∀ a, lo = some a → a.block ∉ F) (hn : n ≤ 1000000) :
    Calls Tryz.prog 117 #[.slice lo n cap, .func (.func f) #[] caps] w fun r w' => ∃ (k : Nat) (F' : List Nat), r = .returned (.slice lo k cap) ∧ Own w' 3 lo k cap ((es.filter (fun e => !pr e)).flatMap Sess.cells) ∧ St es F' w' ∧
      Chg (fun i => i ∈ F ∨ ∃ a, lo = some a ∧ a.block = i) w w' ∧ (∀ k ∈ F', k ∈ F ∨ w.heap.size ≤ k) := by
  rcases first_of pr es with hno | ⟨i0, x, hi0, hpx, hno⟩
  · have HI := Lib.hid (index_none lo n cap es F w ho h h0 hF hn hno)
    have HH := Lib.hid (And.intro ho (And.intro hno hF))
    clear ho h h0 hF hno
    go_enter Tryz.func117, Tryz.ntmps117
    go_wp2_with (go_at_call 129; (with_reducible refine HI.out.mono ?_); rintro r w1 ⟨F1, rfl, hc, hg, hs⟩; have H1 := Lib.hid (And.intro hc (And.intro hg hs)); clear hc hg hs)
    go_ret
    have e1 : es.filter (fun e => !pr e) = es := List.filter_eq_self.2 (fun a ha => by rw [HH.out.2.1 a ha]; rfl)
    exact ⟨n, F1, rfl, by rw [e1]; exact HH.out.1.keep H1.out.1 (fun a ha => HH.out.2.2 a ha), H1.out.2.2, H1.out.1.to (fun k hk => .inl hk), H1.out.2.1⟩
  · have HI := Lib.hid (index_some lo n cap es F w ho h h0 hF hn hi0 hpx hno)
    have hes := fl_own_len el_e ho
    have hin : i0 < n := by rw [← hes]; exact (List.getElem?_eq_some_iff.1 hi0).1
    obtain ⟨b, off, rfl, _⟩ := el_at ho hi0
    have hbl := (ho.at_ _ rfl).2.1
    have hcf := h.fn
    have hcap := ho.le
    have e0 : es.take i0 = (es.take (i0 + 1)).filter (fun e => !pr e) := by
      rw [← take_next hi0, List.filter_append, List.filter_eq_self.2 (fun a ha => by rw [hno a ha]; rfl)]
      simp [hpx]
    have HH := Lib.hid (And.intro ho (And.intro h (And.intro hF (And.intro e0 (And.intro hes hbl)))))
    clear ho h h0 hF hno hpx hi0 e0 hes hbl
    go_enter Tryz.func117, Tryz.ntmps117
    go_wp2_with (go_at_call 129; (with_reducible refine HI.out.mono ?_); rintro r w1 ⟨F1, rfl, hc, hg, hs⟩; have H1 := Lib.hid (And.intro hc (And.intro hg hs)); clear hc hg hs)
    go_loopg [5, 6] (n - (i0 + 1)) (fun g vi vj wr => ∃ (i j : Nat) (xs : List Sess) (F1 : List Nat), g + j = n ∧ vi = .int .i64 i ∧ vj = .int .i64 j ∧ i < j ∧ Own wr 3 (some ⟨b, off, none⟩) n cap (xs.flatMap Sess.cells) ∧ xs.take i = (es.take j).filter (fun e => !pr e) ∧ xs.drop j = es.drop j ∧
      Chg (fun k => k ∈ F ∨ k = b) w wr ∧ St (es.take j) F1 wr ∧ (∀ k ∈ F1, k ∈ F ∨ w.heap.size ≤ k))
    case atStart =>
      exact ⟨i0, i0 + 1, es, F1, by omega, rfl, by go_num, by omega, HH.out.1.keep H1.out.1 (fun a ha => HH.out.2.2.1 a ha), HH.out.2.2.2.1, rfl, H1.out.1.to (fun k hk => .inl hk), H1.out.2.2, H1.out.2.1⟩
    case round =>
      obtain ⟨i, j, xs, F2, hgj, rfl, rfl, hij, hown, htake, hdrop, hch, hst, hgr⟩ := hrel
      have hxl := fl_own_len el_e hown
      by_cases hj : j < n
      · obtain ⟨e, he⟩ : ∃ e, es[j]? = some e := ⟨_, List.getElem?_eq_getElem (by rw [HH.out.2.2.2.2.1]; exact hj)⟩
        have hxe : xs[j]? = some e := by
          have h1 : (xs.drop j)[0]? = (es.drop j)[0]? := by rw [hdrop]
          rw [List.getElem?_drop, List.getElem?_drop] at h1
          simpa [he] using h1
        obtain ⟨y, hy⟩ : ∃ y, xs[i]? = some y := ⟨_, List.getElem?_eq_getElem (by omega)⟩
        obtain ⟨b', off', hlo, hcs⟩ := el_at hown hxe
        cases hlo
        have hpr : pr e = true ∨ pr e = false := by cases pr e <;> simp
        have hlt2 := HH.out.2.1.lt _ _ _ hst
        have hTF : wr.heap.size ∉ F2 := fun h => Nat.lt_irrefl _ (hlt2 _ h)
        have hbF : b ∉ F2 := fun h => by
          rcases hgr b h with h | h
          · exact HH.out.2.2.1 _ rfl h
          · have := HH.out.2.2.2.2.2; omega
        have HS := Lib.hid (And.intro hown (And.intro htake (And.intro hdrop (And.intro hch (And.intro hst (And.intro hgr (And.intro he (And.intro hxe (And.intro hy (And.intro hTF hbF))))))))))
        obtain ⟨x0, x1, x2⟩ := e
        have hA := (Chg.refl (fun _ => False) wr).alloc (.cells #[.int .u64 (x0 : Int), .int .u64 (x1 : Int), .int .u64 (x2 : Int)] 96)
        have hT := heap_top wr (.cells #[.int .u64 (x0 : Int), .int .u64 (x1 : Int), .int .u64 (x2 : Int)] 96)
        have HB := Lib.hid (HH.out.2.1.by' (es.take j) _ F2 _ (by rw [take_next he]; exact List.take_prefix _ _) (HH.out.2.1.keep _ _ _ _ _ hst hA (fun _ _ h => h)))
        have HA := Lib.hid (And.intro hA hT)
        obtain ⟨c0, c1, c2, _⟩ := hcs _ _ _ rfl
        clear hown htake hdrop hch hst hgr he hxe hy hTF hbF hA hT hcs hlt2
        rcases hpr with hpr | hpr
        · have HP := Lib.hid hpr
          have HC := Lib.hid (show Calls Tryz.prog f (#[.agg #[.int .u64 (x0 : Int), .int .u64 (x1 : Int), .int .u64 (x2 : Int)]] ++ caps) (wr.alloc (.cells #[.int .u64 (x0 : Int), .int .u64 (x1 : Int), .int .u64 (x2 : Int)] 96)) (fun r w2 => r = .returned (.bool true) ∧ ∃ F', St (es.take j ++ [_]) F' w2 ∧ Chg (· ∈ F2) _ w2 ∧ ∀ k ∈ F', k ∈ F2 ∨ _ ≤ k) from hpr ▸ HB.out)
          clear hpr HB
          go_wp2_with ((with_reducible refine HC.out.mono ?_); rintro r w2 ⟨rfl, F3, hs3, hc3, hg3⟩; have H3 := Lib.hid (And.intro hs3 (And.intro hc3 hg3)); clear hs3 hc3 hg3)
          go_roundg (gk - 1)
          case measure => omega
          case rel =>
            obtain ⟨hown, htake, hdrop, hch, hst, hgr, he, hxe, hy, hTF, hbF⟩ := HS.out
            have hc3 := H3.out.2.1
            refine ⟨i, j + 1, xs, F3, by omega, rfl, by go_num, by omega, (hown.keep HA.out.1 (fun _ _ h => h)).keep hc3 (fun a ha => by cases ha; exact hbF), ?_, ?_, ?_, ?_, ?_⟩
            · rw [← take_next he, List.filter_append, htake]
              simp [HP.out]
            · rw [← List.drop_drop, hdrop, List.drop_drop]
            · refine (hch.trans HA.out.1 (fun _ _ h => h.elim)).trans hc3 (fun k hk h => ?_)
              rcases hgr k h with h | h
              · exact .inl h
              · omega
            · rw [← take_next he]; exact H3.out.1
            · intro k hk
              have hsz := HA.out.1.size
              rcases H3.out.2.2 k hk with h | h
              · exact hgr k h
              · exact .inr (Nat.le_trans hch.size (Nat.le_trans hsz h))
        · have HP := Lib.hid hpr
          have HC := Lib.hid (show Calls Tryz.prog f (#[.agg #[.int .u64 (x0 : Int), .int .u64 (x1 : Int), .int .u64 (x2 : Int)]] ++ caps) (wr.alloc (.cells #[.int .u64 (x0 : Int), .int .u64 (x1 : Int), .int .u64 (x2 : Int)] 96)) (fun r w2 => r = .returned (.bool false) ∧ ∃ F', St (es.take j ++ [_]) F' w2 ∧ Chg (· ∈ F2) _ w2 ∧ ∀ k ∈ F', k ∈ F2 ∨ _ ≤ k) from hpr ▸ HB.out)
          clear hpr HB
          go_wp2_with ((with_reducible refine HC.out.mono ?_); rintro r w2 ⟨rfl, F3, hs3, hc3, hg3⟩; have hT2 := hc3.heap HA.out.2 HS.out.2.2.2.2.2.2.2.2.2.1; obtain ⟨t0, t1, t2, _⟩ := cells3 hT2; have ho2 := (HS.out.1.keep HA.out.1 (fun _ _ h => h)).keep hc3 (fun a ha => (by cases ha; exact HS.out.2.2.2.2.2.2.2.2.2.2)); obtain ⟨b2, off2, hlo2, hcs2⟩ := el_at ho2 HS.out.2.2.2.2.2.2.2.2.1; cases hlo2; obtain ⟨s0, s1, s2, s3, s4, s5⟩ := hcs2 _ _ _ rfl; have H3 := Lib.hid (And.intro hs3 (And.intro hc3 (And.intro hg3 ho2))); clear hs3 hc3 hg3 hT2 ho2 hcs2)
          go_roundg (gk - 1)
          case measure => omega
          case rel =>
            obtain ⟨hown, htake, hdrop, hch, hst, hgr, he, hxe, hy, hTF, hbF⟩ := HS.out
            have hc3 := H3.out.2.1
            have hxl := fl_own_len el_e hown
            have hset := el_set (i := i) H3.out.2.2.2 (⟨x0, x1, x2⟩ : Sess) (.int .u64 (x0 : Int)) (.int .u64 (x1 : Int)) (.int .u64 (x2 : Int)) rfl (by omega)
            have hcb := (((Chg.refl (· = b) w2).set rfl (off + i * 3) (.int .u64 (x0 : Int))).set rfl (off + i * 3 + 1) (.int .u64 (x1 : Int))).set rfl (off + i * 3 + 2) (.int .u64 (x2 : Int))
            have hw2 : Chg (fun k => k ∈ F ∨ k = b) w w2 := by
              refine (hch.trans HA.out.1 (fun _ _ h => h.elim)).trans hc3 (fun k hk h => ?_)
              rcases hgr k h with h | h
              · exact .inl h
              · omega
            have hg3 : ∀ k ∈ F3, k ∈ F ∨ w.heap.size ≤ k := by
              intro k hk
              have hsz := HA.out.1.size
              rcases H3.out.2.2.1 k hk with h | h
              · exact hgr k h
              · exact .inr (Nat.le_trans hch.size (Nat.le_trans hsz h))
            have hbF3 : ∀ k ∈ F3, ¬ k = b := by
              intro k hk e
              subst e
              rcases hg3 k hk with h | h
              · exact HH.out.2.2.1 _ rfl h
              · have := HH.out.2.2.2.2.2; omega
            refine ⟨i + 1, j + 1, xs.set i (⟨x0, x1, x2⟩ : Sess), F3, by omega, by go_num, by go_num, by omega, hset, ?_, ?_, hw2.trans hcb (fun k _ h => .inr h), ?_, hg3⟩
            · rw [← take_next he, List.filter_append, ← htake, List.take_succ_eq_append_getElem (by rw [List.length_set]; omega), List.getElem_set_self, List.take_set_of_le (Nat.le_refl _)]
              simp [HP.out]
            · rw [List.drop_set_of_lt (by omega), ← List.drop_drop, hdrop, List.drop_drop]
            · rw [← take_next he]; exact HH.out.2.1.keep _ _ _ _ _ H3.out.1 hcb hbF3
      · have e1 : es.take j = es := List.take_of_length_le (by rw [HH.out.2.2.2.2.1]; omega)
        rw [e1] at htake hst
        have hin' : i < n := by omega
        have hcut := hown.cut (m := i) (c := cap) (by omega) (by omega) (Nat.le_refl _)
        rw [fl_take el_e, htake] at hcut
        have HS := Lib.hid (And.intro hcut (And.intro hch (And.intro hst hgr)))
        clear hown htake hdrop hch hst hgr hcut
        have g1 : (i : Int) ≤ (n : Int) := by omega
        have g2 : ¬ cap = i := by omega
        have g3 : i ≤ n := by omega
        have g4 : 0 < n - i := by omega
        have g5 : i + (n - i) ≤ cap := by omega
        have g6 : (i : Int) ≤ (cap : Int) := by omega
        have g7 : i ≤ cap := by omega
        go_wp2_with (refine wpList_clear' rfl (.tmp 38) el_s rfl rfl rfl HS.out.1 g4 g5 zero_one' ?_; intro w3 hx hch; have H3 := Lib.hid (And.intro hx hch); clear hx hch)
        go_ret
        refine ⟨i, F2, rfl, H3.out.1, HH.out.2.1.keep _ _ _ _ _ HS.out.2.2.1 H3.out.2 ?_, ?_, HS.out.2.2.2⟩
        · intro k hk e
          subst e
          rcases HS.out.2.2.2 k hk with h | h
          · exact HH.out.2.2.1 _ rfl h
          · have := HH.out.2.2.2.2.2; omega
        · refine (HS.out.2.1.to (fun k h => ?_)).trans H3.out.2 (fun k _ h => .inr ⟨_, rfl, h.symm⟩)
          rcases h with h | h
          · exact .inl h
          · exact .inr ⟨_, rfl, h.symm⟩
end Go.Proofs.YtackmgmaippajaaGreat.Ls
-- part Lease
namespace Go.Proofs.YtackmgmaippajaaGreat.Ls
set_option maxRecDepth 100000
open Go Go.RowKit

def blk (o : Option Addr) : List Nat := (o.map (·.block)).toList
theorem mem_blk {o : Option Addr} {k : Nat} : k ∈ blk o ↔ ∃ a, o = some a ∧ a.block = k := by
  cases o <;> simp [blk, eq_comm]
/-- A book at block p: the last number, the sessions; F: its blocks. -/
def BookAt (w : World) (p : Nat) (last : Nat) (l : List Sess) (F : List Nat) : Prop :=
  ∃ lo n cap, w.heap[p]? = some (.cells #[.int .u64 (last : Int), .slice lo n cap] 187 (0, 0)) ∧ Own w 3 lo n cap (l.flatMap Sess.cells) ∧ p ∉ blk lo ∧ F = p :: blk lo
theorem BookAt.keep {w w' : World} {p last : Nat} {l : List Sess} {F : List Nat} (h : BookAt w p last l F) {S : Nat → Prop} (hc : Chg S w w') (hS : ∀ k ∈ F, ¬ S k) : BookAt w' p last l F := by
  obtain ⟨lo, n, cap, h1, h2, h3, rfl⟩ := h
  exact ⟨lo, n, cap, hc.heap h1 (hS p (by simp)), h2.keep hc (fun a ha => hS _ (List.mem_cons_of_mem _ (mem_blk.2 ⟨a, ha, rfl⟩))), h3, rfl⟩
theorem BookAt.lt {w : World} {p last : Nat} {l : List Sess} {F : List Nat} (h : BookAt w p last l F) : ∀ k ∈ F, k < w.heap.size := by
  obtain ⟨lo, n, cap, h1, h2, h3, rfl⟩ := h
  intro k hk
  rcases List.mem_cons.1 hk with rfl | hk
  · exact heap_lt h1
  · obtain ⟨a, ha, rfl⟩ := mem_blk.1 hk
    exact (h2.at_ a ha).2.1
theorem cells2 {w : World} {p : Nat} {a b : Value} {t : TypeId} (h : w.heap[p]? = some (.cells #[a, b] t (0, 0))) : w.cell? ⟨p, 0, none⟩ = some a ∧ w.cell? ⟨p, 1, none⟩ = some b ∧ ∀ i, w.frozen? ⟨p, i, none⟩ = false := by
  have h0 := heap_cell h 0
  have h1 := heap_cell h 1
  simp at h0 h1
  exact ⟨h0, h1, fun i => heap_frozen h i⟩
/-- When what is renewed now ends. -/
def endsOf (now life : Nat) : Nat := if 18446744073709551615 - life < now then 18446744073709551615 else now + life
theorem ends_any (now life : Nat) (w : World) (h1 : now < 18446744073709551616) (h2 : life < 18446744073709551616) :
    Calls Tryz.prog 113 #[.int .u64 (now : Int), .int .u64 (life : Int)] w fun e w' => e = .returned (.int .u64 (endsOf now life : Int)) ∧ w = w' := by
  have e1 := IntWalk.u64_in (18446744073709551615 - (life : Int)) (by omega)
  by_cases h : 18446744073709551615 - life < now
  · have hi : (18446744073709551615 : Int) - (life : Int) < (now : Int) := by omega
    have HE := Lib.hid (show endsOf now life = 18446744073709551615 from if_pos h)
    clear h
    go_enter Tryz.func113, Tryz.ntmps113
    go_wp2
    go_ret
    exact ⟨by rw [HE.out]; rfl, rfl⟩
  · have hi : ¬ (18446744073709551615 : Int) - (life : Int) < (now : Int) := by omega
    have e2 := IntWalk.u64_in ((now : Int) + (life : Int)) (by omega)
    have HE := Lib.hid (show endsOf now life = now + life from if_neg h)
    clear h
    go_enter Tryz.func113, Tryz.ntmps113
    go_wp2
    go_ret
    exact ⟨by rw [HE.out]; push_cast; rfl, rfl⟩
theorem endsOf_lt (now life : Nat) (_h1 : now < 18446744073709551616) (_h2 : life < 18446744073709551616) : endsOf now life < 18446744073709551616 := by
  unfold endsOf; split <;> omega
theorem nat_beq (x y : Nat) : ((x : Int) == (y : Int)) = (x == y) := by
  rw [Bool.eq_iff_iff, beq_iff_eq, beq_iff_eq]; omega
/-! ### find -/
theorem find_by (id : Nat) (l : List Sess) (c : Nat) : DelBy Tryz.prog 130 #[.pointer (some ⟨c, 0, none⟩)] Sess.val (fun s => s.id == id) l (fun _ F w => F = [c] ∧ w.heap[c]? = some (.cells #[.int .u64 (id : Int)] 28 (0, 0))) := by
  refine DelBy.pure l c _ _ (fun _ _ => rfl) ?_
  intro e w hc
  obtain ⟨x0, x1, x2⟩ := e
  have hc' := heap_new (o := .cells #[.int .u64 (x0 : Int), .int .u64 (x1 : Int), .int .u64 (x2 : Int)] 96) hc
  obtain ⟨z0, _⟩ := cells1 hc'
  show Calls Tryz.prog 130 #[.agg #[.int .u64 (x0 : Int), .int .u64 (x1 : Int), .int .u64 (x2 : Int)], .pointer (some ⟨c, 0, none⟩)] w _
  clear hc hc'
  go_enter Tryz.func130, Tryz.ntmps130
  go_wp2
  go_ret
  refine ⟨?_, (Below.refl _ w).alloc (Nat.le_refl _) _⟩
  show Ending.returned (.bool ((x0 : Int) == (id : Int))) = .returned (.bool (x0 == id))
  rw [nat_beq]
theorem find_none (p last id : Nat) (l : List Sess) (F : List Nat) (w : World) (h : BookAt w p last l F) (hl : l.length ≤ 1000000) (hno : ∀ e ∈ l, e.id ≠ id) :
    Calls Tryz.prog 110 #[.pointer (some ⟨p, 0, none⟩), .int .u64 (id : Int)] w fun e w' => e = .returned (.int .i64 (-1)) ∧ Below w.heap.size w w' := by
  obtain ⟨lo, n, cap, h1, h2, h3, rfl⟩ := h
  have hA := (Chg.refl (fun _ => False) w).alloc (.cells #[.int .u64 (id : Int)] 28)
  have hn := fl_own_len el_e h2
  have HI := Lib.hid (index_none lo n cap l [w.heap.size] _ (h2.keep hA (fun _ _ h => h)) (find_by id l w.heap.size) ⟨rfl, heap_top w _⟩ (fun a ha hk => by have := (h2.at_ a ha).2.1; rw [List.mem_singleton] at hk; omega) (by omega) (fun e he => by simp [hno e he]))
  have hmf : ∀ (fn : Fn) (first cap : Array Value) (w : World), (Instr.makeFunc fn first cap).run Tryz.prog w = .ok (.func fn first cap) w := fun _ _ _ _ => rfl
  obtain ⟨z0, z1, z2⟩ := cells2 (hA.heap h1 (fun h => h))
  clear h1 h2 h3 hA hno
  go_enter Tryz.func110, Tryz.ntmps110
  go_wp2_with (go_at_call 129; (with_reducible refine HI.out.mono ?_); rintro r w1 ⟨F1, rfl, hc, hg, hs⟩; have H1 := Lib.hid hc; clear hc hg hs)
  go_ret
  exact ⟨rfl, ((Below.refl _ w).alloc (Nat.le_refl _) _).trans (H1.out.below (by rw [size_alloc]; omega) (fun k hk => by rw [List.mem_singleton] at hk; omega))⟩
theorem find_some (p last id i : Nat) (e : Sess) (l : List Sess) (F : List Nat) (w : World) (h : BookAt w p last l F) (hl : l.length ≤ 1000000) (he : l[i]? = some e) (hid : e.id = id) (hno : ∀ e ∈ l.take i, e.id ≠ id) :
    Calls Tryz.prog 110 #[.pointer (some ⟨p, 0, none⟩), .int .u64 (id : Int)] w fun e w' => e = .returned (.int .i64 (i : Int)) ∧ Below w.heap.size w w' := by
  obtain ⟨lo, n, cap, h1, h2, h3, rfl⟩ := h
  have hA := (Chg.refl (fun _ => False) w).alloc (.cells #[.int .u64 (id : Int)] 28)
  have hn := fl_own_len el_e h2
  have HI := Lib.hid (index_some lo n cap l [w.heap.size] _ (h2.keep hA (fun _ _ h => h)) (find_by id l w.heap.size) ⟨rfl, heap_top w _⟩ (fun a ha hk => by have := (h2.at_ a ha).2.1; rw [List.mem_singleton] at hk; omega) (by omega) he (by simp [hid]) (fun e he => by simp [hno e he]))
  have hmf : ∀ (fn : Fn) (first cap : Array Value) (w : World), (Instr.makeFunc fn first cap).run Tryz.prog w = .ok (.func fn first cap) w := fun _ _ _ _ => rfl
  obtain ⟨z0, z1, z2⟩ := cells2 (hA.heap h1 (fun h => h))
  clear h1 h2 h3 hA hno he hid
  go_enter Tryz.func110, Tryz.ntmps110
  go_wp2_with (go_at_call 129; (with_reducible refine HI.out.mono ?_); rintro r w1 ⟨F1, rfl, hc, hg, hs⟩; have H1 := Lib.hid hc; clear hc hg hs)
  go_ret
  exact ⟨rfl, ((Below.refl _ w).alloc (Nat.le_refl _) _).trans (H1.out.below (by rw [size_alloc]; omega) (fun k hk => by rw [List.mem_singleton] at hk; omega))⟩
/-! ### live -/
def liveL : List Sess → Nat → Nat → Bool
  | [], _, _ => false
  | e :: l, id, now => if e.id = id then decide (now < e.ends) else liveL l id now
theorem liveL_none {l : List Sess} {id now : Nat} (h : ∀ e ∈ l, e.id ≠ id) : liveL l id now = false := by
  induction l with
  | nil => rfl
  | cons e l ih => rw [liveL, if_neg (h e (by simp)), ih (fun x hx => h x (by simp [hx]))]
theorem liveL_some {l : List Sess} {id now i : Nat} {e : Sess} (he : l[i]? = some e) (hid : e.id = id) (h : ∀ y ∈ l.take i, y.id ≠ id) : liveL l id now = decide (now < e.ends) := by
  induction l generalizing i with
  | nil => simp at he
  | cons x l ih =>
    cases i with
    | zero => simp at he; subst he; rw [liveL, if_pos hid]
    | succ i =>
      rw [List.take_succ_cons] at h
      rw [liveL, if_neg (h x (by simp))]
      exact ih (by simpa using he) (fun y hy => h y (by simp [hy]))
theorem who (l : List Sess) (id : Nat) : (∀ e ∈ l, e.id ≠ id) ∨ ∃ (i : Nat) (e : Sess), l[i]? = some e ∧ e.id = id ∧ ∀ y ∈ l.take i, y.id ≠ id := by
  rcases first_of (fun s => s.id == id) l with h | ⟨i, x, h1, h2, h3⟩
  · exact .inl (fun e he => by have := h e he; simpa using this)
  · exact .inr ⟨i, x, h1, by simpa using h2, fun y hy => by have := h3 y hy; simpa using this⟩
theorem live_any (p last id now : Nat) (l : List Sess) (F : List Nat) (w : World) (h : BookAt w p last l F) (hl : l.length ≤ 1000000) :
    Calls Tryz.prog 79 #[.pointer (some ⟨p, 0, none⟩), .int .u64 (id : Int), .int .u64 (now : Int)] w fun e w' => e = .returned (.bool (liveL l id now)) ∧ Below w.heap.size w w' := by
  rcases who l id with hno | ⟨i, e, he, hid, hno⟩
  · have HF := Lib.hid (find_none p last id l F w h hl hno)
    have HL := Lib.hid (liveL_none (now := now) hno)
    clear h hno
    go_enter Tryz.func79, Tryz.ntmps79
    go_wp2_with (go_at_call 110; (with_reducible refine HF.out.mono ?_); rintro r w1 ⟨rfl, hb⟩; have H1 := Lib.hid hb; clear hb)
    go_ret
    exact ⟨by rw [HL.out]; rfl, H1.out⟩
  · have HF := Lib.hid (find_some p last id i e l F w h hl he hid hno)
    have HL := Lib.hid (liveL_some (now := now) he hid hno)
    have HB := Lib.hid h
    obtain ⟨lo, n, cap, h1, h2, h3, hF⟩ := h
    have hn := fl_own_len el_e h2
    have hi : (i : Int) < (n : Int) := by have := (List.getElem?_eq_some_iff.1 he).1; omega
    obtain ⟨b, off, rfl, _⟩ := el_at h2 he
    have HX := Lib.hid (And.intro h1 (And.intro h2 he))
    obtain ⟨x0, x1, x2⟩ := e
    clear h1 h2 h3 hF he hid hno
    go_enter Tryz.func79, Tryz.ntmps79
    go_wp2_with (go_at_call 110; (with_reducible refine HF.out.mono ?_); rintro r w1 ⟨rfl, hb⟩; have hC := Chg.of_below hb (fun _ => False); obtain ⟨z0, z1, z2⟩ := cells2 (hC.heap HX.out.1 (fun h => h)); obtain ⟨b', off', hlo, hcs⟩ := el_at (HX.out.2.1.keep hC (fun _ _ h => h)) HX.out.2.2; cases hlo; obtain ⟨c0, c1, c2, _⟩ := hcs _ _ _ rfl; have H1 := Lib.hid hb; clear hb hC hcs)
    go_ret
    exact ⟨by rw [HL.out]; rfl, H1.out⟩
end Go.Proofs.YtackmgmaippajaaGreat.Ls
-- part LeaseB
namespace Go.Proofs.YtackmgmaippajaaGreat.Ls
set_option maxRecDepth 100000
open Go Go.RowKit

def renewL : List Sess → Nat → Nat → List Sess × Int
  | [], _, _ => ([], 11)
  | e :: l, id, now => if e.id = id then (if e.ends ≤ now then (e :: l, 15) else (⟨e.id, max e.ends (endsOf now e.life), e.life⟩ :: l, 0)) else (e :: (renewL l id now).1, (renewL l id now).2)
theorem set_ends (l : List Sess) (i : Nat) (e : Sess) (x : Nat) (he : l[i]? = some e) : (l.flatMap Sess.cells).set (i * 3 + 1) (.int .u64 (x : Int)) = (l.set i ⟨e.id, x, e.life⟩).flatMap Sess.cells := by
  induction l generalizing i with
  | nil => simp at he
  | cons y l ih =>
    cases i with
    | zero => simp at he; subst he; simp [Sess.cells]
    | succ i =>
      rw [List.set_cons_succ, List.flatMap_cons, List.flatMap_cons, ← ih i (by simpa using he), show (i + 1) * 3 + 1 = i * 3 + 1 + 1 + 1 + 1 by omega]
      simp [Sess.cells]
theorem renewL_none {l : List Sess} {id now : Nat} (h : ∀ e ∈ l, e.id ≠ id) : renewL l id now = (l, 11) := by
  induction l with
  | nil => rfl
  | cons e l ih => rw [renewL, if_neg (h e (by simp)), ih (fun x hx => h x (by simp [hx]))]
theorem renewL_some {l : List Sess} {id now i : Nat} {e : Sess} (he : l[i]? = some e) (hid : e.id = id) (h : ∀ y ∈ l.take i, y.id ≠ id) :
    renewL l id now = if e.ends ≤ now then (l, 15) else (l.set i ⟨e.id, max e.ends (endsOf now e.life), e.life⟩, 0) := by
  induction l generalizing i with
  | nil => simp at he
  | cons x l ih =>
    cases i with
    | zero => simp at he; subst he; rw [renewL, if_pos hid]; rfl
    | succ i =>
      rw [List.take_succ_cons] at h
      rw [renewL, if_neg (h x (by simp)), ih (by simpa using he) (fun y hy => h y (by simp [hy]))]
      split <;> rfl
/-- What comes of a call on a thing with the blocks F. -/
def Wrote (w w' : World) (p last : Nat) (l : List Sess) (F : List Nat) : Prop := ∃ F', BookAt w' p last l F' ∧ Chg (· ∈ F) w w' ∧ ∀ k ∈ F', k ∈ F ∨ w.heap.size ≤ k
theorem Wrote.same {w w' : World} {p last : Nat} {l : List Sess} {F : List Nat} (h : BookAt w p last l F) (hb : Below w.heap.size w w') : Wrote w w' p last l F :=
  ⟨F, h.keep (Chg.of_below hb (fun _ => False)) (fun _ _ h => h), Chg.of_below hb _, fun _ h => .inl h⟩
theorem renew_end {w w1 : World} {p last b off n cap i x0 x1 x2 y : Nat} {l : List Sess} {F : List Nat} {v : Int} (he : l[i]? = some ⟨x0, x1, x2⟩) (h3 : p ∉ blk (some ⟨b, off, none⟩)) (hF : F = p :: blk (some ⟨b, off, none⟩)) (hn : l.length = n)
    (hb : Below w.heap.size w w1) (hp : w1.heap[p]? = some (.cells #[.int .u64 (last : Int), .slice (some ⟨b, off, none⟩) n cap] 187 (0, 0))) (ho : Own w1 3 (some ⟨b, off, none⟩) n cap (l.flatMap Sess.cells)) (hpb : p ≠ b) (hv : v = (y : Int)) :
    Wrote w (w1.setCell ⟨b, off + i * 3 + 1, none⟩ (.int .u64 v)) p last (l.set i ⟨x0, y, x2⟩) F := by
  subst hv
  have hset := ho.set (i * 3 + 1) (.int .u64 (y : Int)) (by rw [← hn]; have := (List.getElem?_eq_some_iff.1 he).1; omega)
  rw [set_ends l i _ _ he, ← Nat.add_assoc] at hset
  have hch : Chg (· = b) w1 (w1.setCell ⟨b, off + i * 3 + 1, none⟩ (.int .u64 (y : Int))) := Chg.one w1 b _ _
  refine ⟨F, ⟨_, n, cap, hch.heap hp hpb, hset, h3, hF⟩, (Chg.of_below hb (· ∈ F)).trans hch (fun k _ h => ?_), fun _ h => .inl h⟩
  rw [hF, h]
  exact List.mem_cons_of_mem _ (mem_blk.2 ⟨_, rfl, rfl⟩)
set_option maxHeartbeats 1000000 in
set_option maxRecDepth 100000 in
theorem renew_any (p last id now : Nat) (l : List Sess) (F : List Nat) (w : World) (h : BookAt w p last l F) (hl : l.length ≤ 1000000) (hnow : now < 18446744073709551616) (hlf : ∀ e ∈ l, e.life < 18446744073709551616) :
    Calls Tryz.prog 83 #[.pointer (some ⟨p, 0, none⟩), .int .u64 (id : Int), .int .u64 (now : Int)] w fun e w' => e = .returned (.int .i64 (renewL l id now).2) ∧ Wrote w w' p last (renewL l id now).1 F := by
  rcases who l id with hno | ⟨i, e, he, hid, hno⟩
  · have HF := Lib.hid (find_none p last id l F w h hl hno)
    have HL := Lib.hid (And.intro (renewL_none (now := now) hno) h)
    clear h hno
    go_enter Tryz.func83, Tryz.ntmps83
    go_wp2_with (go_at_call 110; (with_reducible refine HF.out.mono ?_); rintro r w1 ⟨rfl, hb⟩; have H1 := Lib.hid hb; clear hb)
    go_ret
    rw [HL.out.1]
    exact ⟨rfl, Wrote.same HL.out.2 H1.out⟩
  · have HF := Lib.hid (find_some p last id i e l F w h hl he hid hno)
    have hrl := renewL_some (now := now) he hid hno
    have HB := Lib.hid h
    have hlife := hlf e (List.mem_of_getElem? he)
    obtain ⟨lo, n, cap, h1, h2, h3, hF⟩ := h
    have hn := fl_own_len el_e h2
    have hi : (i : Int) < (n : Int) := by have := (List.getElem?_eq_some_iff.1 he).1; omega
    obtain ⟨b, off, rfl, _⟩ := el_at h2 he
    have HX := Lib.hid (And.intro h1 (And.intro h2 (And.intro he (And.intro h3 (And.intro hF hn)))))
    obtain ⟨x0, x1, x2⟩ := e
    dsimp only at hlife hid hrl
    clear h1 h2 h3 hF he hid hno hlf
    by_cases hexp : x1 ≤ now
    · rw [if_pos hexp] at hrl
      have HL := Lib.hid hrl
      clear hrl
      go_enter Tryz.func83, Tryz.ntmps83
      go_wp2_with (go_at_call 110; (with_reducible refine HF.out.mono ?_); rintro r w1 ⟨rfl, hb⟩; have hC := Chg.of_below hb (fun _ => False); obtain ⟨z0, z1, z2⟩ := cells2 (hC.heap HX.out.1 (fun h => h)); obtain ⟨b', off', hlo, hcs⟩ := el_at (HX.out.2.1.keep hC (fun _ _ h => h)) HX.out.2.2.1; cases hlo; obtain ⟨c0, c1, c2, _⟩ := hcs _ _ _ rfl; have H1 := Lib.hid hb; clear hb hC hcs)
      go_ret
      rw [HL.out]
      exact ⟨rfl, Wrote.same HB.out H1.out⟩
    · rw [if_neg hexp] at hrl
      have HL := Lib.hid hrl
      clear hrl
      go_enter Tryz.func83, Tryz.ntmps83
      go_wp2_with (go_at_call 110; (with_reducible refine HF.out.mono ?_); rintro r w1 ⟨rfl, hb⟩; have hC := Chg.of_below hb (fun _ => False); have hp1 := hC.heap HX.out.1 (fun h => h); have ho1 := HX.out.2.1.keep hC (fun _ _ h => h); obtain ⟨z0, z1, z2⟩ := cells2 hp1; obtain ⟨b', off', hlo, hcs⟩ := el_at ho1 HX.out.2.2.1; cases hlo; obtain ⟨c0, c1, c2, f0, f1, f2⟩ := hcs _ _ _ rfl; have H1 := Lib.hid (And.intro hb (And.intro hp1 ho1)); clear hb hC hcs hp1 ho1)
      have HE := Lib.hid (fun w => ends_any now x2 w hnow hlife)
      go_upto_region 8 with fail
      have d0 : w1.drew.cell? ⟨p, 1, none⟩ = some (.slice (some ⟨b, off, none⟩) n cap) := z1
      have d1 : w1.drew.cell? ⟨b, off + i * 3 + 1, none⟩ = some (.int .u64 (x1 : Int)) := c1
      have d2 : w1.drew.cell? ⟨b, off + i * 3 + 2, none⟩ = some (.int .u64 (x2 : Int)) := c2
      have d3 : w1.drew.frozen? ⟨b, off + i * 3 + 1, none⟩ = false := f1
      have hi0 : 0 ≤ (i : Int) := by omega
      have hpb : p ≠ b := fun e => HX.out.2.2.2.1 (mem_blk.2 ⟨_, rfl, e.symm⟩)
      go_still_tail 26, (by kernel_rfl)
      still_call ((HE.out w1.drew).mono (fun _ _ h => ⟨h.1, h.2.symm⟩))
      repeat still_step
      refine wpStill_nil ?_
      have HD := Lib.hid (And.intro H1.out.1.drew (And.intro (show w1.drew.heap[p]? = _ from H1.out.2.1) H1.out.2.2.drew))
      change wpList _ _ _ _ _ w1.drew
      generalize w1.drew = w2 at *
      go_wp2
      all_goals (
        go_ret
        rw [HL.out]
        refine ⟨rfl, ?_⟩
        exact renew_end HX.out.2.2.1 HX.out.2.2.2.1 HX.out.2.2.2.2.1 HX.out.2.2.2.2.2 HD.out.1 HD.out.2.1 HD.out.2.2 hpb (by omega))
end Go.Proofs.YtackmgmaippajaaGreat.Ls
-- part LeaseC
namespace Go.Proofs.YtackmgmaippajaaGreat.Ls
set_option maxRecDepth 100000
open Go Go.RowKit

theorem clone_nil (c : Nat) (w : World) : Calls Tryz.prog 105 #[.slice none 0 c] w fun e w' => e = .returned (.slice none 0 0) ∧ w = w' := by
  have q := Lib.run_eql_slice_nil (P := Tryz.prog) w 32 96 none 0 c 0 0 Tryz.underlying32
  go_enter Tryz.func105, Tryz.ntmps105
  go_wp2
  go_ret
  exact ⟨rfl, rfl⟩
theorem new_any (last : Nat) (c : Nat) (w : World) (_hl : last < 18446744073709551616) : Calls Tryz.prog 66 #[.int .u64 (last : Int), .slice none 0 c] w fun e w' => e = .returned (.tuple #[.pointer (some ⟨w.heap.size, 0, none⟩), .bool true]) ∧ Below w.heap.size w w' ∧ BookAt w' w.heap.size last [] [w.heap.size] := by
  go_enter Tryz.func66, Tryz.ntmps66
  go_wp2
  go_loopg [13] 0 (fun g v wr => g = 0 ∧ v = .int .i64 0 ∧ wr = w)
  case atStart => exact ⟨rfl, rfl, rfl⟩
  case round =>
    obtain ⟨rfl, rfl, rfl⟩ := hrel
    go_wp2_with (go_at_call 105; (with_reducible refine (clone_nil c _).mono ?_); rintro e1 w1 ⟨rfl, rfl⟩)
    go_ret2
    exact ⟨rfl, (Below.refl _ _).alloc (Nat.le_refl _) _, none, 0, 0, heap_top _ _, Own.nil' _ _, by simp [blk], by simp [blk]⟩
theorem open_end {w wa w2 : World} {p last n cap xc x1 x2 : Nat} {lo xo : Option Addr} {l : List Sess} {F : List Nat} {o : Obj} (_h2 : Own w 3 lo n cap (l.flatMap Sess.cells)) (h3 : p ∉ blk lo) (hF : F = p :: blk lo) (hpl : p < w.heap.size) (hC : Chg (· = p) w wa)
    (hp : w2.heap[p]? = some (.cells #[.int .u64 ((last : Int) + 1), .slice lo n cap] 187 (0, 0))) (hx : Own w2 3 xo (n + 1) xc (l.flatMap Sess.cells ++ [.int .u64 ((last : Int) + 1), .int .u64 (x1 : Int), .int .u64 (x2 : Int)])) (hch : Chg (fun k => ∃ a, lo = some a ∧ a.block = k) (wa.alloc o).drew w2) (hx2 : ∀ a', xo = some a' → lo = some a' ∨ (wa.alloc o).drew.heap.size ≤ a'.block) :
    Wrote w (w2.setCell ⟨p, 1, none⟩ (.slice xo (n + 1) xc)) p (last + 1) (l ++ [⟨last + 1, x1, x2⟩]) F := by
  have hpx : p ∉ blk xo := by
    intro h
    obtain ⟨a, ha, e⟩ := mem_blk.1 h
    rcases hx2 a ha with h | h
    · exact h3 (mem_blk.2 ⟨a, h, e⟩)
    · have h4 := hC.size
      have h5 : wa.heap.size + 1 ≤ a.block := by rw [← size_alloc wa o]; exact h
      omega
  have hw2 : Chg (· ∈ F) w w2 := by
    refine ((hC.to (S' := (· ∈ F)) (fun k h => by rw [hF, h]; simp)).alloc o).drew.trans hch (fun k _ h => ?_)
    rw [hF]
    exact List.mem_cons_of_mem _ (mem_blk.2 h)
  refine ⟨p :: blk xo, ⟨xo, n + 1, xc, heap_set hp 1 _, ?_, hpx, rfl⟩, hw2.set (by rw [hF]; simp) 1 _, ?_⟩
  · have := hx.keep (Chg.one w2 p 1 (.slice xo (n + 1) xc)) (fun a ha e => hpx (mem_blk.2 ⟨a, ha, e⟩))
    rw [List.flatMap_append]
    simpa [Sess.cells] using this
  · intro k hk
    rcases List.mem_cons.1 hk with rfl | hk
    · exact .inl (by rw [hF]; simp)
    · obtain ⟨a, ha, rfl⟩ := mem_blk.1 hk
      rcases hx2 a ha with h | h
      · exact .inl (by rw [hF]; exact List.mem_cons_of_mem _ (mem_blk.2 ⟨a, h, rfl⟩))
      · have h5 : wa.heap.size + 1 ≤ a.block := by rw [← size_alloc wa o]; exact h
        have h4 := hC.size
        exact .inr (by omega)
theorem keep_last {w : World} {p : Nat} {v u : Value} (h : w.cell? ⟨p, 0, none⟩ = some v) : (w.setCell ⟨p, 1, none⟩ u).cell? ⟨p, 0, none⟩ = some v := by
  rw [World.cell?_setCell_other (h := by intro q; simp at q)]; exact h
set_option maxHeartbeats 8000000 in
set_option maxRecDepth 100000 in
theorem open_any (p last now life : Nat) (l : List Sess) (F : List Nat) (w : World) (h : BookAt w p last l F) (hl : l.length < 16) (hlast : last < 18446744073709551615) (hnow : now < 18446744073709551616) (hlf : 1 ≤ life ∧ life ≤ 1099511627776) :
    Calls Tryz.prog 82 #[.pointer (some ⟨p, 0, none⟩), .int .u64 (now : Int), .int .u64 (life : Int)] w fun e w' => e = .returned (.tuple #[.int .u64 ((last + 1 : Nat) : Int), .int .i64 0]) ∧ Wrote w w' p (last + 1) (l ++ [⟨last + 1, endsOf now life, life⟩]) F := by
  obtain ⟨lo, n, cap, h1, h2, h3, hF⟩ := h
  have hn := fl_own_len el_e h2
  obtain ⟨z0, z1, z2⟩ := cells2 h1
  have e1 := IntWalk.u64_in ((last : Int) + 1) (by omega)
  have hn16 : (n : Int) < 16 := by omega
  have hle : ((last : Int) == 18446744073709551615) = false := by simp; omega
  have HX := Lib.hid (And.intro h1 (And.intro h2 (And.intro h3 (And.intro hF hn))))
  clear h1 h2 h3 hF hn
  obtain ⟨hlf1, hlf2⟩ := hlf
  go_enter Tryz.func82, Tryz.ntmps82
  go_wp2
  have hwb : w.heap.size ≤ (w.setCell ⟨p, 0, none⟩ (.int .u64 ((last : Int) + 1))).heap.size := (Chg.one w p 0 _).size
  have hC0 := Chg.one w p 0 (.int .u64 ((last : Int) + 1))
  have hp1 := heap_set HX.out.1 0 (.int .u64 ((last : Int) + 1))
  have ho1 := HX.out.2.1.keep hC0 (fun a ha e => HX.out.2.2.1 (mem_blk.2 ⟨a, ha, e⟩))
  generalize w.setCell ⟨p, 0, none⟩ (.int .u64 ((last : Int) + 1)) = wa at *
  have hp1' : wa.heap[p]? = some (.cells #[.int .u64 ((last : Int) + 1), .slice lo n cap] 187 (0, 0)) := hp1
  have HE := Lib.hid (fun w => ends_any now life w hnow (by omega))
  obtain ⟨y0, y1, y2⟩ := cells2 hp1'
  have d0 : wa.drew.cell? ⟨p, 0, none⟩ = some (.int .u64 ((last : Int) + 1)) := y0
  have d1 : wa.drew.cell? ⟨p, 1, none⟩ = some (.slice lo n cap) := y1
  have hpB := heap_new (w := wa) (o := .cells #[.int .u64 ((last : Int) + 1), .int .u64 (endsOf now life : Int), .int .u64 (life : Int)] 96) hp1'
  obtain ⟨b0, b1, b2⟩ := cells2 hpB
  have hR := Row.alloc wa #[.int .u64 ((last : Int) + 1), .int .u64 (endsOf now life : Int), .int .u64 (life : Int)] 96 (0, 0)
  have hoB := ho1.keep ((Chg.refl (fun _ => False) wa).alloc (.cells #[.int .u64 ((last : Int) + 1), .int .u64 (endsOf now life : Int), .int .u64 (life : Int)] 96)) (fun _ _ h => h)
  have H1 := Lib.hid (And.intro hpB (And.intro hR.drew (And.intro hoB.drew (And.intro hC0 (And.intro hp1' ho1)))))
  clear hp1 hp1' hpB hR hoB hC0 ho1
  have h17 : n + 1 ≤ maxLen := by unfold maxLen; omega
  have h17b : (n + 1) * 24 ≤ 140737488355328 := by omega
  have HZ := Lib.hid (And.intro hl (And.intro hlast (And.intro hnow (And.intro hlf1 (And.intro hlf2 (And.intro h17 h17b))))))
  clear hl hlast hnow hlf1 hlf2 hn16 hle e1 hwb y0 y1 z0 z1 z2
  clear h17 h17b
  have HLN := Lib.hid (show (#[Value.int .u64 ((last : Int) + 1), .int .u64 (endsOf now life : Int), .int .u64 (life : Int)] : Array Value).toList.length = 1 * 3 from rfl)
  have HON := Lib.hid (show ∀ u ∈ (#[Value.int .u64 ((last : Int) + 1), .int .u64 (endsOf now life : Int), .int .u64 (life : Int)] : Array Value).toList, u.oneCell' = true from el_e.one ⟨last + 1, endsOf now life, life⟩)
  go_region_law (first
    | (refine step_append' rfl (.tmp 43) (.tmp 53) el_s rfl (c := 1) ?hs ?hx H1.out.2.2.1 HLN.out H1.out.2.1 HON.out HZ.out.2.2.2.2.2.1 HZ.out.2.2.2.2.2.2 ?_; (case hs => simp [Act.eval]); (case hx => simp [Act.eval]); intro xo xc w2 hx hch _ hx2; have hp2 := hch.undrew.heap H1.out.1 (fun ⟨a, ha, e⟩ => HX.out.2.2.1 (mem_blk.2 ⟨a, ha, e⟩)); obtain ⟨v0, v1, v2⟩ := cells2 hp2; have HEn := Lib.hid (And.intro hx (And.intro hch (And.intro hx2 hp2))); clear hx hch hx2 hp2)
    | (go_simp; go_at_call 113; (with_reducible refine (HE.out _).mono ?_); rintro e1 w1 ⟨rfl, rfl⟩))
  all_goals go_wp2
  all_goals (
    go_ret2
    refine ⟨by push_cast; rfl, ?_⟩
    exact open_end HX.out.2.1 HX.out.2.2.1 HX.out.2.2.2.1 (heap_lt HX.out.1) H1.out.2.2.2.1 HEn.out.2.2.2 HEn.out.1 HEn.out.2.1 HEn.out.2.2.1)
end Go.Proofs.YtackmgmaippajaaGreat.Ls
-- part LeaseD
namespace Go.Proofs.YtackmgmaippajaaGreat.Ls
set_option maxRecDepth 100000
open Go Go.RowKit

def idCell (n : Nat) : Value := .int .u64 (n : Int)
def expired (l : List Sess) (now : Nat) : List Nat := (l.filter (fun s => decide (s.ends ≤ now))).map Sess.id
theorem el_u64 : ElemOf Tryz.prog 42 28 (.int .u64 0) 1 8 := .mk' Tryz.underlying42 (by kernel_rfl) rfl (by decide)
theorem one_id (l : List Nat) : ∀ u ∈ l.map idCell, u.oneCell' = true := by
  intro u hu
  obtain ⟨b, _, rfl⟩ := List.mem_map.1 hu
  rfl
/-- What an expiry holds on the way: the time, the numbers that went. -/
def GoneAt (now cn co : Nat) (l : List Sess) (F : List Nat) (w : World) : Prop :=
  cn ≠ co ∧ w.heap[cn]? = some (.cells #[.int .u64 (now : Int)] 28 (0, 0)) ∧ ∃ uo m uc, w.heap[co]? = some (.cells #[.slice uo m uc] 42 (0, 0)) ∧ Own w 1 uo m uc ((expired l now).map idCell) ∧ F = cn :: co :: blk uo ∧ cn ∉ blk uo ∧ co ∉ blk uo
theorem expired_len (l : List Sess) (now : Nat) : (expired l now).length ≤ l.length := by
  unfold expired; rw [List.length_map]; exact List.length_filter_le ..
theorem expired_snoc (l : List Sess) (e : Sess) (now : Nat) : expired (l ++ [e]) now = if e.ends ≤ now then expired l now ++ [e.id] else expired l now := by
  unfold expired
  rw [List.filter_append, List.map_append]
  by_cases h : e.ends ≤ now <;> simp [h]
theorem GoneAt.lt {now cn co : Nat} {l : List Sess} {F : List Nat} {w : World} (h : GoneAt now cn co l F w) : ∀ k ∈ F, k < w.heap.size := by
  obtain ⟨h0, h1, uo, m, uc, h2, h3, rfl, h4, h5⟩ := h
  intro k hk
  simp only [List.mem_cons] at hk
  rcases hk with rfl | rfl | hk
  · exact heap_lt h1
  · exact heap_lt h2
  · obtain ⟨a, ha, rfl⟩ := mem_blk.1 hk
    exact (h3.at_ a ha).2.1
theorem GoneAt.keep {now cn co : Nat} {l : List Sess} {F : List Nat} {w w' : World} {S : Nat → Prop} (h : GoneAt now cn co l F w) (hc : Chg S w w') (hS : ∀ k ∈ F, ¬ S k) : GoneAt now cn co l F w' := by
  obtain ⟨h0, h1, uo, m, uc, h2, h3, rfl, h4, h5⟩ := h
  exact ⟨h0, hc.heap h1 (hS cn (by simp)), uo, m, uc, hc.heap h2 (hS co (by simp)), h3.keep hc (fun a ha => hS _ (by simp [mem_blk, ha])), rfl, h4, h5⟩
theorem gone_end {now cn co m uc xc x0 x1 x2 : Nat} {uo xo : Option Addr} {l : List Sess} {F : List Nat} {w wa wb w2 : World} (hg : GoneAt now cn co l F w) (hF : F = cn :: co :: blk uo) (hne : cn ≠ co) (h4 : cn ∉ blk uo) (h5 : co ∉ blk uo) (hcn : wa.heap[cn]? = some (.cells #[.int .u64 (now : Int)] 28 (0, 0)))
    (hA : Chg (fun _ => False) w wa) (hB : Chg (fun _ => False) wa wb) (hov : x1 ≤ now) (hx : Own w2 1 xo (m + 1) xc ((expired l now).map idCell ++ [x0].map idCell)) (hch : Chg (fun k => ∃ a, uo = some a ∧ a.block = k) wb w2) (hx2 : ∀ a', xo = some a' → uo = some a' ∨ wb.heap.size ≤ a'.block) (hp : w2.heap[co]? = some (.cells #[.slice uo m uc] 42 (0, 0))) :
    ∃ F', GoneAt now cn co (l ++ [⟨x0, x1, x2⟩]) F' (w2.setCell ⟨co, 0, none⟩ (.slice xo (m + 1) xc)) ∧ Chg (· ∈ F) w (w2.setCell ⟨co, 0, none⟩ (.slice xo (m + 1) xc)) ∧ ∀ k ∈ F', k ∈ F ∨ w.heap.size ≤ k := by
  have hlt := hg.lt
  have hcnl := hlt cn (by rw [hF]; simp)
  have hcol := hlt co (by rw [hF]; simp)
  have hsz : w.heap.size ≤ wb.heap.size := Nat.le_trans hA.size hB.size
  have hnx : ∀ k, k ∉ blk uo → k < w.heap.size → k ∉ blk xo := by
    intro k h1 h2 hk
    obtain ⟨a, ha, e⟩ := mem_blk.1 hk
    rcases hx2 a ha with h | h
    · exact h1 (mem_blk.2 ⟨a, h, e⟩)
    · omega
  have h1 := hch.heap (hB.heap hcn (fun h => h)) (fun h => h4 (mem_blk.2 h))
  have hs := Chg.one w2 co 0 (.slice xo (m + 1) xc)
  refine ⟨cn :: co :: blk xo, ⟨hne, hs.heap h1 hne, xo, m + 1, xc, heap_set hp 0 _, ?_, rfl, hnx _ h4 hcnl, hnx _ h5 hcol⟩, ?_, ?_⟩
  · rw [expired_snoc, if_pos hov, List.map_append]
    exact hx.keep hs (fun a ha e => hnx _ h5 hcol (mem_blk.2 ⟨a, ha, e⟩))
  · refine (((hA.trans hB (fun _ _ h => h)).to (S' := (· ∈ F)) (fun _ h => h.elim)).trans hch (fun k _ h => ?_)).set (by rw [hF]; simp) 0 _
    rw [hF]
    exact List.mem_cons_of_mem _ (List.mem_cons_of_mem _ (mem_blk.2 h))
  · intro k hk
    simp only [List.mem_cons] at hk
    rcases hk with rfl | rfl | hk
    · exact .inl (by rw [hF]; simp)
    · exact .inl (by rw [hF]; simp)
    · obtain ⟨a, ha, rfl⟩ := mem_blk.1 hk
      rcases hx2 a ha with h | h
      · exact .inl (by rw [hF]; simp [mem_blk, h])
      · exact .inr (Nat.le_trans hsz h)
set_option maxHeartbeats 1000000 in
theorem gone_call (now cn co : Nat) (l : List Sess) (e : Sess) (F : List Nat) (w : World) (h : GoneAt now cn co l F w) (hl : l.length ≤ 1000000) :
    Calls Tryz.prog 118 #[.agg #[.int .u64 (e.id : Int), .int .u64 (e.ends : Int), .int .u64 (e.life : Int)], .pointer (some ⟨cn, 0, none⟩), .pointer (some ⟨co, 0, none⟩)] w fun r w2 => r = .returned (.bool (decide (e.ends ≤ now))) ∧ ∃ F', GoneAt now cn co (l ++ [e]) F' w2 ∧ Chg (· ∈ F) w w2 ∧ ∀ k ∈ F', k ∈ F ∨ w.heap.size ≤ k := by
  obtain ⟨x0, x1, x2⟩ := e
  dsimp only
  have hA := (Chg.refl (fun _ => False) w).alloc (.cells #[.int .u64 (x0 : Int), .int .u64 (x1 : Int), .int .u64 (x2 : Int)] 96)
  have hg := h.keep hA (fun _ _ h => h)
  have hlt := h.lt
  have hel := expired_len l now
  obtain ⟨h0, h1, uo, m, uc, h2, h3, hF, h4, h5⟩ := hg
  have hml : (expired l now).length = m := by have := h3.len; rw [List.length_map, Nat.mul_one] at this; exact this
  obtain ⟨z0, z1⟩ := cells1 h1
  obtain ⟨y0, y1⟩ := cells1 h2
  have HX := Lib.hid (And.intro h0 (And.intro h1 (And.intro h2 (And.intro h3 (And.intro hF (And.intro h4 (And.intro h5 (And.intro hlt hml))))))))
  have HG := Lib.hid (And.intro h hA)
  have hm1 : m + 1 ≤ maxLen := by unfold maxLen; omega
  have hm2 : (m + 1) * 8 ≤ 140737488355328 := by omega
  clear h h1 h2 h3 hF h4 h5 hlt hel hml hA
  by_cases hov : x1 ≤ now
  · have hovi : (x1 : Int) ≤ (now : Int) := by omega
    have HO := Lib.hid hov
    clear hov
    have hB := (Chg.refl (fun _ => False) (w.alloc (.cells #[.int .u64 (x0 : Int), .int .u64 (x1 : Int), .int .u64 (x2 : Int)] 96))).alloc (.cells #[.int .u64 (x0 : Int)] 28)
    have hR := (Row.alloc (w.alloc (.cells #[.int .u64 (x0 : Int), .int .u64 (x1 : Int), .int .u64 (x2 : Int)] 96)) #[.int .u64 (x0 : Int)] 28 (0, 0))
    rw [size_alloc] at hR
    have HB := Lib.hid (And.intro hB hR)
    have hoB := Lib.hid (HX.out.2.2.2.1.keep hB (fun _ _ h => h))
    clear hB hR
    go_enter Tryz.func118, Tryz.ntmps118
    go_wp2_with (at_builtin; refine wpList_append' rfl (.tmp 11) (.tmp 14) el_u64 rfl rfl rfl hoB.out rfl HB.out.2 (one_id [x0]) hm1 hm2 ?_; intro xo xc w2 hx hch _ hx2; have hp2 := hch.heap (HB.out.1.heap HX.out.2.2.1 (fun h => h)) (fun ⟨a, ha, e⟩ => HX.out.2.2.2.2.2.2.1 (mem_blk.2 ⟨a, ha, e⟩)); obtain ⟨v0, v1⟩ := cells1 hp2; have HE := Lib.hid (And.intro hx (And.intro hch (And.intro hx2 hp2))); clear hx hch hx2 hp2)
    go_ret
    refine ⟨by simp [HO.out], ?_⟩
    exact gone_end HG.out.1 HX.out.2.2.2.2.1 HX.out.1 HX.out.2.2.2.2.2.1 HX.out.2.2.2.2.2.2.1 HX.out.2.1 HG.out.2 HB.out.1 HO.out HE.out.1 HE.out.2.1 HE.out.2.2.1 HE.out.2.2.2
  · have hovi : ¬ (x1 : Int) ≤ (now : Int) := by omega
    have HO := Lib.hid hov
    clear hov
    go_enter Tryz.func118, Tryz.ntmps118
    go_wp2
    go_ret
    have hg := HG.out.1.keep HG.out.2 (fun _ _ h => h)
    refine ⟨by simp [HO.out], F, ?_, HG.out.2.to (fun _ h => h.elim), fun _ h => .inl h⟩
    obtain ⟨k0, k1, k2, k3, k4, k5, k6, k7⟩ := hg
    exact ⟨k0, k1, k2, k3, k4, k5, by rw [expired_snoc, if_neg HO.out]; exact k6, k7⟩
theorem expire_p {p W : Nat} {lo : Option Addr} (h3 : p ∉ blk lo) (hp : p < W) : ¬ (p ∈ [W, W + 1] ∨ ∃ a, lo = some a ∧ a.block = p) := by
  rintro (h | h)
  · simp at h; omega
  · exact h3 (mem_blk.2 h)
theorem gone_by (now cn co : Nat) (l : List Sess) (hl : l.length ≤ 1000000) : DelBy Tryz.prog 118 #[.pointer (some ⟨cn, 0, none⟩), .pointer (some ⟨co, 0, none⟩)] Sess.val (fun s => decide (s.ends ≤ now)) l (GoneAt now cn co) := by
  refine ⟨fun _ _ => rfl, fun l' e F w hp h => ?_, fun l' F S w1 w2 h hc hS => h.keep hc hS, fun l' F w h => h.lt⟩
  have hlen := hp.length_le
  rw [List.length_append, List.length_singleton] at hlen
  exact gone_call now cn co l' e F w h (by omega)
def stays (l : List Sess) (now : Nat) : List Sess := l.filter (fun s => !decide (s.ends ≤ now))
set_option maxHeartbeats 1000000 in
theorem expire_any (p last now : Nat) (l : List Sess) (F : List Nat) (w : World) (h : BookAt w p last l F) (hl : l.length ≤ 1000000) :
    Calls Tryz.prog 86 #[.pointer (some ⟨p, 0, none⟩), .int .u64 (now : Int)] w fun e w' => ∃ uo m uc, e = .returned (.slice uo m uc) ∧ Own w' 1 uo m uc ((expired l now).map idCell) ∧ (∀ a, uo = some a → w.heap.size ≤ a.block) ∧ Wrote w w' p last (stays l now) F := by
  obtain ⟨lo, n, cap, h1, h2, h3, hF⟩ := h
  have hn := fl_own_len el_e h2
  have hA := ((Chg.refl (fun _ => False) w).alloc (.cells #[.int .u64 (now : Int)] 28)).alloc (.cells #[.slice none 0 0] 42)
  have g1 := heap_new (o := .cells #[.slice none 0 0] 42) (heap_top w (.cells #[.int .u64 (now : Int)] 28))
  have g2 := heap_top (w.alloc (.cells #[.int .u64 (now : Int)] 28)) (.cells #[.slice none 0 0] 42)
  rw [size_alloc] at g2
  have hG : GoneAt now w.heap.size (w.heap.size + 1) [] [w.heap.size, w.heap.size + 1] ((w.alloc (.cells #[.int .u64 (now : Int)] 28)).alloc (.cells #[.slice none 0 0] 42)) :=
    ⟨by omega, g1, none, 0, 0, g2, Own.nil' _ _, by simp [blk], by simp [blk], by simp [blk]⟩
  have HD := Lib.hid (delfunc_any lo n cap l [w.heap.size, w.heap.size + 1] _ (h2.keep hA (fun _ _ h => h)) (gone_by now w.heap.size (w.heap.size + 1) l hl) hG (fun a ha hk => by have := (h2.at_ a ha).2.1; simp at hk; omega) (by omega))
  have hmf : ∀ (fn : Fn) (first cap : Array Value) (w : World), (Instr.makeFunc fn first cap).run Tryz.prog w = .ok (.func fn first cap) w := fun _ _ _ _ => rfl
  have hpa := hA.heap h1 (fun h => h)
  obtain ⟨z0, z1, z2⟩ := cells2 hpa
  have HX := Lib.hid (And.intro hpa (And.intro h3 (And.intro hF (And.intro hA (heap_lt h1)))))
  clear h1 h2 h3 hF hA g1 g2 hG hpa hn
  go_enter Tryz.func86, Tryz.ntmps86
  go_wp2_with (go_at_call 117; (with_reducible refine HD.out.mono ?_); rintro r w1 ⟨k, F1, rfl, ho, hs, hc, hg⟩; have hp1 := hc.heap HX.out.1 (expire_p HX.out.2.1 HX.out.2.2.2.2); obtain ⟨y0, y1, y2⟩ := cells2 hp1; obtain ⟨q0, q1, uo, m, uc, q2, q3, q4, q5, q6⟩ := hs; have hq2 := heap_far (a := ⟨p, 1, none⟩) q2 (by simp; have := HX.out.2.2.2.2; omega) (.slice lo k cap); obtain ⟨u0, u1⟩ := cells1 hq2; have H1 := Lib.hid (And.intro ho (And.intro hc (And.intro hg (And.intro hp1 (And.intro q3 (And.intro q4 (And.intro q6 q2))))))); clear ho hc hg hp1 q0 q1 q2 q3 q4 q5 q6 hq2)
  go_ret
  obtain ⟨ho, hc, hg, hp1, q3, q4, q6, q2⟩ := H1.out
  obtain ⟨hpa, h3, hF, hA, hpl⟩ := HX.out
  have hge : ∀ i ∈ F1, w.heap.size ≤ i := by
    intro i hi
    rcases hg i hi with h | h
    · simp at h; omega
    · exact Nat.le_trans hA.size h
  have huo : ∀ a, uo = some a → w.heap.size ≤ a.block := fun a ha => hge _ (by rw [q4]; simp [mem_blk, ha])
  have hs := Chg.one w1 p 1 (.slice lo k cap)
  refine ⟨uo, m, uc, rfl, q3.keep hs (fun a ha e => by have := huo a ha; omega), huo, F, ⟨lo, k, cap, heap_set hp1 1 _, ho.keep hs (fun a ha e => h3 (mem_blk.2 ⟨a, ha, e⟩)), h3, hF⟩, ?_, fun _ h => .inl h⟩
  refine ((hA.to (S' := (· ∈ F)) (fun _ h => h.elim)).trans hc (fun i hi h => ?_)).set (by rw [hF]; simp) 1 _
  rcases h with h | h
  · simp at h; omega
  · rw [hF]; exact List.mem_cons_of_mem _ (mem_blk.2 h)
end Go.Proofs.YtackmgmaippajaaGreat.Ls
-- part LeaseE
namespace Go.Proofs.YtackmgmaippajaaGreat.Ls
set_option maxRecDepth 100000
open Go Go.RowKit

/-- A book that was made behind w0. -/
structure BookIn (w0 w : World) (p last : Nat) (l : List Sess) (F : List Nat) : Prop where
  book : BookAt w p last l F
  new : ∀ k ∈ F, w0.heap.size ≤ k
  below : Below w0.heap.size w0 w
theorem BookIn.keep {w0 w w' : World} {p last : Nat} {l : List Sess} {F : List Nat} (h : BookIn w0 w p last l F) {S : Nat → Prop} (hc : Chg S w w') (hS : ∀ k ∈ F, ¬ S k) (hb : ∀ k, S k → w0.heap.size ≤ k) : BookIn w0 w' p last l F :=
  ⟨h.book.keep hc hS, h.new, h.below.trans (hc.below h.below.size hb)⟩
theorem BookIn.alloc {w0 w : World} {p last : Nat} {l : List Sess} {F : List Nat} (h : BookIn w0 w p last l F) (o : Obj) : BookIn w0 (w.alloc o) p last l F :=
  h.keep ((Chg.refl (fun _ => False) w).alloc o) (fun _ _ h => h) (fun _ h => h.elim)
theorem BookIn.stays {w0 w w' : World} {p last : Nat} {l : List Sess} {F : List Nat} (h : BookIn w0 w p last l F) (hb : Below w.heap.size w w') : BookIn w0 w' p last l F :=
  h.keep (Chg.of_below hb (fun _ => False)) (fun _ _ h => h) (fun _ h => h.elim)
theorem BookIn.wrote {w0 w w' : World} {p last last' : Nat} {l l' : List Sess} {F : List Nat} (h : BookIn w0 w p last l F) (hn : Wrote w w' p last' l' F) : ∃ F', BookIn w0 w' p last' l' F' ∧ Chg (· ∈ F) w w' ∧ ∀ k ∈ F', k ∈ F ∨ w.heap.size ≤ k := by
  obtain ⟨F', h1, h2, h3⟩ := hn
  exact ⟨F', ⟨h1, fun k hk => (h3 k hk).elim (h.new k) (Nat.le_trans h.below.size), h.below.trans (h2.below h.below.size h.new)⟩, h2, h3⟩
theorem new_in (w0 w : World) (LAST : Int) (last : Nat) (hL : LAST = (last : Int)) (hl : last < 18446744073709551616) (hb : Below w0.heap.size w0 w) : Calls Tryz.prog 66 #[.int .u64 LAST, .slice none 0 0] w fun e w' => ∃ p, e = .returned (.tuple #[.pointer (some ⟨p, 0, none⟩), .bool true]) ∧ Below w.heap.size w w' ∧ BookIn w0 w' p last [] [p] ∧ w.heap.size ≤ p := by
  subst hL
  refine (new_any last 0 w hl).mono ?_
  rintro e w' ⟨rfl, h1, h2⟩
  exact ⟨_, rfl, h1, ⟨h2, fun k hk => by rw [List.mem_singleton] at hk; subst hk; exact hb.size, hb.trans (h1.mono hb.size)⟩, Nat.le_refl _⟩
theorem open_in (w0 : World) (p last : Nat) (l : List Sess) (F : List Nat) (NOW LIFE : Int) (now life : Nat) (w : World) (h : BookIn w0 w p last l F) (hN : NOW = (now : Int)) (hL : LIFE = (life : Int)) (hl : l.length < 16) (hlast : last < 18446744073709551615) (hnow : now < 18446744073709551616) (hlf : 1 ≤ life ∧ life ≤ 1099511627776) :
    Calls Tryz.prog 82 #[.pointer (some ⟨p, 0, none⟩), .int .u64 NOW, .int .u64 LIFE] w fun e w' => e = .returned (.tuple #[.int .u64 ((last + 1 : Nat) : Int), .int .i64 0]) ∧ ∃ F', BookIn w0 w' p (last + 1) (l ++ [⟨last + 1, endsOf now life, life⟩]) F' ∧ Chg (· ∈ F) w w' ∧ ∀ k ∈ F', k ∈ F ∨ w.heap.size ≤ k := by
  subst hN; subst hL
  refine (open_any p last now life l F w h.book hl hlast hnow hlf).mono ?_
  rintro e w' ⟨rfl, h1⟩
  exact ⟨rfl, h.wrote h1⟩
theorem renew_in (w0 : World) (p last : Nat) (l l' : List Sess) (F : List Nat) (ID NOW code : Int) (id now : Nat) (w : World) (h : BookIn w0 w p last l F) (hI : ID = (id : Int)) (hN : NOW = (now : Int)) (hr : renewL l id now = (l', code)) (hl : l.length ≤ 1000000) (hnow : now < 18446744073709551616) (hlf : ∀ e ∈ l, e.life < 18446744073709551616) :
    Calls Tryz.prog 83 #[.pointer (some ⟨p, 0, none⟩), .int .u64 ID, .int .u64 NOW] w fun e w' => e = .returned (.int .i64 code) ∧ ∃ F', BookIn w0 w' p last l' F' ∧ Chg (· ∈ F) w w' ∧ ∀ k ∈ F', k ∈ F ∨ w.heap.size ≤ k := by
  subst hI; subst hN
  refine (renew_any p last id now l F w h.book hl hnow hlf).mono ?_
  rintro e w' ⟨rfl, h1⟩
  rw [hr] at h1 ⊢
  exact ⟨rfl, h.wrote h1⟩
theorem live_in (w0 : World) (p last : Nat) (l : List Sess) (F : List Nat) (ID NOW : Int) (id now : Nat) (b : Bool) (w : World) (h : BookIn w0 w p last l F) (hI : ID = (id : Int)) (hN : NOW = (now : Int)) (hb : liveL l id now = b) (hl : l.length ≤ 1000000) :
    Calls Tryz.prog 79 #[.pointer (some ⟨p, 0, none⟩), .int .u64 ID, .int .u64 NOW] w fun e w' => e = .returned (.bool b) ∧ Below w.heap.size w w' := by
  subst hI; subst hN; subst hb
  exact live_any p last id now l F w h.book hl
theorem expire_in (w0 : World) (p last : Nat) (l l' : List Sess) (gone : List Nat) (N : Nat) (F : List Nat) (NOW : Int) (now : Nat) (w : World) (h : BookIn w0 w p last l F) (hN : NOW = (now : Int)) (hg : expired l now = gone) (hs : stays l now = l') (hlen : gone.length = N) (hl : l.length ≤ 1000000) :
    Calls Tryz.prog 86 #[.pointer (some ⟨p, 0, none⟩), .int .u64 NOW] w fun e w' => ∃ uo uc, e = .returned (.slice uo N uc) ∧ Own w' 1 uo N uc (gone.map idCell) ∧ (∀ a, uo = some a → w.heap.size ≤ a.block) ∧ ∃ F', BookIn w0 w' p last l' F' ∧ Chg (· ∈ F) w w' ∧ ∀ k ∈ F', k ∈ F ∨ w.heap.size ≤ k := by
  subst hN; subst hg; subst hs
  refine (expire_any p last now l F w h.book hl).mono ?_
  rintro e w' ⟨uo, m, uc, rfl, h1, h2, h3⟩
  obtain rfl : m = N := by have := h1.len; rw [List.length_map] at this; omega
  exact ⟨uo, uc, rfl, h1, h2, h.wrote h3⟩
theorem id_at {w : World} {uo : Option Addr} {N uc k : Nat} {l : List Nat} {x : Nat} (h : Own w 1 uo N uc (l.map idCell)) (hx : l[k]? = some x) : ∃ b off, uo = some ⟨b, off, none⟩ ∧ w.cell? ⟨b, off + k, none⟩ = some (.int .u64 (x : Int)) := by
  have hk := (List.getElem?_eq_some_iff.1 hx).1
  have hl := h.len
  rw [List.length_map, Nat.mul_one] at hl
  cases hu : uo with
  | none => have := h.nil hu; have := h.le; omega
  | some a =>
    obtain ⟨b, off, sp⟩ := a
    have hsp := (h.at_ _ hu).1
    simp at hsp
    subst hsp; subst hu
    exact ⟨b, off, rfl, (h.cellAt (k := k) (v := idCell x) (by rw [List.getElem?_map, hx]; rfl)).1⟩
end Go.Proofs.YtackmgmaippajaaGreat.Ls
