/-
  LAYER 19: Due.
-/
import Derived.Test.YtmkjcjdomechfaaLaterC
namespace Go.Proofs.Ytmkjcjdomechfaa
open Go Go.RowKit

def Wt.pos (e : Wt) : List Value := [.int .u64 (e.led : Int), .int .u64 (e.ent : Int)]
theorem el_pos : Elem Wt.pos 2 := ⟨fun _ => rfl, by decide, fun e u hu => by simp [Wt.pos] at hu; rcases hu with rfl | rfl <;> rfl⟩
theorem el_p : ElemOf Try.prog 41 32 (.agg #[.int .u64 0, .int .u64 0]) 2 16 := .mk' Try.underlying41 (by kernel_rfl) rfl (by decide)
/-- A slice without its first element. -/
theorem Own.tail1 {w : World} {s b off n cap : Nat} {cs : List Value} (h : Own w s (some ⟨b, off, none⟩) n cap cs) (hn : 0 < n) : Own w s (some ⟨b, off + s, none⟩) (n - 1) (cap - 1) (cs.drop s) := by
  obtain ⟨_, h2, h3, h4⟩ := h.at_ _ rfl
  simp only at h2 h3 h4
  have hle := h.le
  have hlen := h.len
  have e1 : (n - 1) * s = n * s - s := by rw [Nat.sub_mul, Nat.one_mul]
  have e2 : (cap - 1) * s = cap * s - s := by rw [Nat.sub_mul, Nat.one_mul]
  have e3 : s ≤ cap * s := Nat.le_mul_of_pos_left s (by omega)
  refine ⟨by rw [List.length_drop]; omega, by omega, by have := h.max; omega, by simp, ?_⟩
  rintro a ⟨⟩
  refine ⟨rfl, h2, fun j hj => ?_, fun i v hv => ?_⟩
  · have := h3 (s + j) (by omega)
    rwa [← Nat.add_assoc] at this
  · rw [List.getElem?_drop] at hv
    have := h4 _ v hv
    rwa [← Nat.add_assoc] at this
theorem Own.tail0 {w : World} {s b off : Nat} {cs : List Value} (h : Own w s (some ⟨b, off, none⟩) 1 1 cs) : Own w s (some ⟨b, off, none⟩) 0 0 (cs.drop s) := by
  obtain ⟨_, h2, _, _⟩ := h.at_ _ rfl
  have hlen := h.len
  have e : cs.drop s = [] := List.drop_of_length_le (by omega)
  rw [e]
  refine ⟨by simp, Nat.le_refl _, by simp, by simp, ?_⟩
  rintro a ⟨⟩
  exact ⟨rfl, h2, fun j hj => by omega, fun i v hv => by simp at hv⟩
theorem while_eq {l : List Wt} {now k : Nat} (h1 : ∀ e ∈ l.take k, e.at_ ≤ now) (h2 : k = l.length ∨ ∃ e, l[k]? = some e ∧ now < e.at_) :
    l.takeWhile (fun e => decide (e.at_ ≤ now)) = l.take k ∧ l.dropWhile (fun e => decide (e.at_ ≤ now)) = l.drop k := by
  induction l generalizing k with
  | nil => simp
  | cons x l ih =>
    cases k with
    | zero =>
      rcases h2 with h2 | ⟨e, he, h2⟩
      · simp at h2
      · simp at he; subst he
        simp [Nat.not_le.2 h2]
    | succ k =>
      have hx := h1 x (by simp)
      obtain ⟨i1, i2⟩ := ih (k := k) (fun e he => h1 e (by simp [he])) (by
        rcases h2 with h2 | ⟨e, he, h2⟩
        · left; simpa using h2
        · right; exact ⟨e, by simpa using he, h2⟩)
      simp [hx, i1, i2]
structure DueRel (w wr : World) (p : Nat) (l : List Wt) (k : Nat) (oo : Option Addr) (oc : Nat) (F : List Nat) : Prop where
  a : ListAt wr p (l.drop k) F
  o : Own wr 2 oo k oc ((l.take k).flatMap Wt.pos)
  new : ∀ a, oo = some a → w.heap.size ≤ a.block
  ch : Chg (· ∈ F) w wr
def dueOut (l : List Wt) (now : Nat) : List Wt := l.takeWhile (fun e => decide (e.at_ ≤ now))
def dueRest (l : List Wt) (now : Nat) : List Wt := l.dropWhile (fun e => decide (e.at_ ≤ now))
theorem due_end {w wr w2 : World} {p k n cap oc xc b off off' : Nat} {oo xo : Option Addr} {l : List Wt} {F : List Nat} {e : Wt} {B : Obj} (hF : ∀ j ∈ F, j < w.heap.size) (h : DueRel w wr p l k oo oc F) (he : l[k]? = some e)
    (h1 : wr.heap[p]? = some (.cells #[.slice (some ⟨b, off, none⟩) n cap] 55 (0, 0))) (h3 : p ∉ blk (some ⟨b, off, none⟩)) (hFe : F = p :: blk (some ⟨b, off, none⟩)) (h2 : Own wr 3 (some ⟨b, off', none⟩) (n - 1) (cap - 1) ((l.drop (k + 1)).flatMap Wt.cells))
    (hx : Own w2 2 xo (k + 1) xc ((l.take k).flatMap Wt.pos ++ e.pos)) (hch : Chg (fun j => ∃ a, oo = some a ∧ a.block = j) (wr.alloc B) w2) (hx2 : ∀ a', xo = some a' → oo = some a' ∨ (wr.alloc B).heap.size ≤ a'.block) :
    DueRel w (w2.setCell ⟨p, 0, none⟩ (.slice (some ⟨b, off', none⟩) (n - 1) (cap - 1))) p l (k + 1) xo xc F := by
  have hoF : ∀ a, oo = some a → a.block ∉ F := fun a ha hk => by have := h.new a ha; have := hF _ hk; omega
  have hA : Chg (fun j => ∃ a, oo = some a ∧ a.block = j) wr w2 := ((Chg.refl (fun _ => False) wr).alloc B).to (fun _ h => h.elim) |>.trans hch (fun _ _ h => h)
  have hpF : p ∈ F := by rw [hFe]; simp
  have hbF : b ∈ F := by rw [hFe]; simp [blk]
  have hp2 := hA.heap h1 (fun ⟨a, ha, ea⟩ => hoF a ha (by rw [ea]; exact hpF))
  have hpb : p ≠ b := fun e => h3 (mem_blk.2 ⟨_, rfl, e.symm⟩)
  have hs := Chg.one w2 p 0 (.slice (some ⟨b, off', none⟩) (n - 1) (cap - 1))
  have hsz := h.ch.size
  have hxn : ∀ a, xo = some a → w.heap.size ≤ a.block := fun a ha => by
    rcases hx2 a ha with h4 | h4
    · exact h.new a h4
    · rw [size_alloc] at h4; omega
  refine ⟨⟨some ⟨b, off', none⟩, n - 1, cap - 1, heap_set hp2 0 _, (h2.keep hA (fun a ha ⟨a', ha', ea⟩ => hoF a' ha' (by cases ha; rw [ea]; exact hbF))).keep hs (fun a ha e => by cases ha; exact hpb e.symm), h3, hFe⟩, ?_, hxn, ?_⟩
  · have e1 : (l.take (k + 1)).flatMap Wt.pos = (l.take k).flatMap Wt.pos ++ e.pos := by rw [List.take_add_one, he]; simp
    rw [e1]
    exact hx.keep hs (fun a ha ea => by have := hxn a ha; have := hF p hpF; omega)
  · exact (h.ch.trans hA (fun j hj ⟨a, ha, ea⟩ => by have := h.new a ha; omega)).set hpF 0 _
set_option maxHeartbeats 2000000 in
set_option maxRecDepth 100000 in
theorem due_any (p now : Nat) (l : List Wt) (F : List Nat) (w : World) (h : ListAt w p l F) (hl : l.length ≤ 1000000) :
    Calls Try.prog 15 #[.pointer (some ⟨p, 0, none⟩), .int .u64 (now : Int)] w fun r w' => ∃ uo uc, r = .returned (.slice uo (dueOut l now).length uc) ∧ Own w' 2 uo (dueOut l now).length uc ((dueOut l now).flatMap Wt.pos) ∧ (∀ a, uo = some a → w.heap.size ≤ a.block) ∧ Wrote w w' p (dueRest l now) F := by
  have HL := Lib.hid h.lt
  have H0 := Lib.hid (show DueRel w w p l 0 none 0 F from ⟨h, Own.nil' _ _, by simp, Chg.refl _ _⟩)
  clear h
  go_enter Try.func15, Try.ntmps15
  go_wp2
  go_loopg [5] l.length (fun g v wr => ∃ k oo oc, g + k = l.length ∧ v = .slice oo k oc ∧ DueRel w wr p l k oo oc F ∧ ∀ e ∈ l.take k, e.at_ ≤ now)
  case atStart => exact ⟨0, none, 0, by omega, rfl, H0.out, by simp⟩
  case round =>
    obtain ⟨k, oo, oc, hg, rfl, hrel, hle⟩ := hrel
    obtain ⟨lo, n, cap, h1, h2, h3, hF⟩ := hrel.a
    obtain ⟨z0, z2⟩ := cells1 h1
    have hn : n = l.length - k := by rw [← fl_own_len el_e h2, List.length_drop]
    by_cases hk : k < l.length
    · obtain ⟨e, he⟩ : ∃ e, l[k]? = some e := ⟨_, List.getElem?_eq_getElem hk⟩
      have hd : (l.drop k)[0]? = some e := by rw [List.getElem?_drop]; exact he
      obtain ⟨b, off, rfl, hcs⟩ := el_at h2 hd
      obtain ⟨x0, x1, x2⟩ := e
      obtain ⟨c0, c1, c2, _⟩ := hcs _ _ _ rfl
      simp only [Nat.zero_mul, Nat.add_zero] at c0 c1 c2
      have hn0 : 0 < n := by omega
      have hcap := h2.le
      have hdd : ((l.drop k).flatMap Wt.cells).drop 3 = (l.drop (k + 1)).flatMap Wt.cells := by
        have := fl_drop el_e (l.drop k) 1
        rw [Nat.one_mul, List.drop_drop] at this
        exact this
      have HR := Lib.hid (And.intro hrel (And.intro hle (And.intro he (And.intro h1 (And.intro h2 (And.intro h3 (And.intro hF hdd)))))))
      clear hrel hle he h1 h2 h3 hF hd hdd hcs
      by_cases hnow : x0 ≤ now
      · have hnI : (x0 : Int) ≤ (now : Int) := by omega
        have hn0I : (0 : Int) < (n : Int) := by omega
        have hrow := Row.alloc wr #[.int .u64 (x1 : Int), .int .u64 (x2 : Int)] 32 (0, 0)
        have HO := Lib.hid (And.intro (HR.out.1.o.keep ((Chg.refl (fun _ => False) wr).alloc (.cells #[.int .u64 (x1 : Int), .int .u64 (x2 : Int)] 32)) (fun _ _ h => h)) hrow)
        have HP1 := Lib.hid (HR.out.1.ch.size)
        have hA1 := (Chg.refl (fun _ => False) wr).alloc (.cells #[.int .u64 (x1 : Int), .int .u64 (x2 : Int)] 32)
        have HPF := Lib.hid (show ∀ w2, Chg (fun j => ∃ a, oo = some a ∧ a.block = j) (wr.alloc (.cells #[.int .u64 (x1 : Int), .int .u64 (x2 : Int)] 32)) w2 → w2.heap[p]? = some (.cells #[.slice (some ⟨b, off, none⟩) n cap] 55 (0, 0)) from fun w2 hch => hch.heap (hA1.heap HR.out.2.2.2.1 (fun h => h)) (fun ⟨a, ha, ea⟩ => by have := HR.out.1.new a ha; have := HL.out p (by rw [HR.out.2.2.2.2.2.2.1]; simp); omega))
        clear hrow hA1
        by_cases hc1 : cap = 1
        · have hn1 : n = 1 := by omega
          clear hn hn0 hn0I hcap
          subst hn1
          subst hc1
          have HT := Lib.hid (show Own wr 3 (some ⟨b, off, none⟩) (1 - 1) (1 - 1) ((l.drop (k + 1)).flatMap Wt.cells) by rw [← HR.out.2.2.2.2.2.2.2]; exact HR.out.2.2.2.2.1.tail0)
          -- BEGIN1
          as_aux_lemma =>
            go_wp2_with (at_builtin; refine wpList_append' rfl (.tmp 27) (.tmp 35) el_p rfl rfl rfl HO.out.1 (m := 1) rfl HO.out.2 (el_pos.one ⟨x0, x1, x2⟩) (by unfold maxLen; omega) (by omega) ?_; intro xo xc w2 hx hch _ hx2; obtain ⟨f0, f2⟩ := cells1 (HPF.out w2 hch); have H2 := Lib.hid (And.intro hx (And.intro hch hx2)); clear hx hch hx2)
            go_roundg (gk - 1)
            case measure => omega
            case rel => exact ⟨k + 1, xo, xc, by omega, rfl, due_end (e := ⟨x0, x1, x2⟩) HL.out HR.out.1 HR.out.2.2.1 HR.out.2.2.2.1 HR.out.2.2.2.2.2.1 HR.out.2.2.2.2.2.2.1 HT.out H2.out.1 H2.out.2.1 H2.out.2.2, fun y hy => by
              rw [List.take_add_one, HR.out.2.2.1] at hy
              rcases List.mem_append.1 hy with h | h
              · exact HR.out.2.1 y h
              · simp at h; subst h; exact hnow⟩
          -- END1
        · have HT := Lib.hid (show Own wr 3 (some ⟨b, off + 3, none⟩) (n - 1) (cap - 1) ((l.drop (k + 1)).flatMap Wt.cells) by rw [← HR.out.2.2.2.2.2.2.2]; exact HR.out.2.2.2.2.1.tail1 hn0)
          have hn1 : (1 : Int) ≤ (n : Int) := by omega
          clear hn
          -- BEGIN2
          as_aux_lemma =>
            go_wp2_with (at_builtin; refine wpList_append' rfl (.tmp 27) (.tmp 35) el_p rfl rfl rfl HO.out.1 (m := 1) rfl HO.out.2 (el_pos.one ⟨x0, x1, x2⟩) (by unfold maxLen; omega) (by omega) ?_; intro xo xc w2 hx hch _ hx2; obtain ⟨f0, f2⟩ := cells1 (HPF.out w2 hch); have H2 := Lib.hid (And.intro hx (And.intro hch hx2)); clear hx hch hx2)
            go_roundg (gk - 1)
            case measure => omega
            case rel => exact ⟨k + 1, xo, xc, by omega, rfl, due_end (e := ⟨x0, x1, x2⟩) HL.out HR.out.1 HR.out.2.2.1 HR.out.2.2.2.1 HR.out.2.2.2.2.2.1 HR.out.2.2.2.2.2.2.1 HT.out H2.out.1 H2.out.2.1 H2.out.2.2, fun y hy => by
              rw [List.take_add_one, HR.out.2.2.1] at hy
              rcases List.mem_append.1 hy with h | h
              · exact HR.out.2.1 y h
              · simp at h; subst h; exact hnow⟩
          -- END2
      · have hnI : decide ((x0 : Int) ≤ (now : Int)) = false := decide_eq_false (by omega)
        have hnI' : ¬ (x0 : Int) ≤ (now : Int) := by omega
        have hn0I : (0 : Int) < (n : Int) := by omega
        clear hn hn0
        -- BEGIN3
        as_aux_lemma =>
          go_wp2
          go_ret
          obtain ⟨e1, e2⟩ := while_eq HR.out.2.1 (.inr ⟨_, HR.out.2.2.1, by dsimp only; omega⟩)
          have e1' : dueOut l now = l.take k := e1
          have e2' : dueRest l now = l.drop k := e2
          have hkl : (l.take k).length = k := by rw [List.length_take]; omega
          rw [e1', e2', hkl]
          exact ⟨oo, oc, rfl, HR.out.1.o, HR.out.1.new, F, HR.out.1.a, HR.out.1.ch, fun _ h => .inl h⟩
        -- END3
    · have hk0 : k = l.length := by omega
      have hn0 : n = 0 := by omega
      have HR := Lib.hid (And.intro hrel (And.intro hle hk0))
      clear hrel hle h1 h2 h3 hF hn hk hg hk0
      subst hn0
      -- BEGIN4
      as_aux_lemma =>
        go_wp2
        go_ret
        obtain ⟨e1, e2⟩ := while_eq HR.out.2.1 (.inl HR.out.2.2)
        have e1' : dueOut l now = l.take k := e1
        have e2' : dueRest l now = l.drop k := e2
        have hkl : (l.take k).length = k := by rw [List.length_take]; have := HR.out.2.2; omega
        rw [e1', e2', hkl]
        exact ⟨oo, oc, rfl, HR.out.1.o, HR.out.1.new, F, HR.out.1.a, HR.out.1.ch, fun _ h => .inl h⟩
      -- END4
end Go.Proofs.Ytmkjcjdomechfaa
