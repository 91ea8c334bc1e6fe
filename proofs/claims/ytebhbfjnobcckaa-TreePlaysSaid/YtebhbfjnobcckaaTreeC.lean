/-
  LAYER 6: Put.
-/
import Derived.Test.YtebhbfjnobcckaaTreeB
namespace Go.Proofs.Ytebhbfjnobcckaa
open Go Go.RowKit

def insP (l : List Pl) (t : Pl) : List Pl := match l with
  | [] => [t]
  | x :: l => if cmpB x.key t.key < 0 then x :: insP l t else t :: x :: l
theorem insP_at : ∀ {l : List Pl} {t : Pl} {i : Nat}, i ≤ l.length → LoP t.key l i → HiP t.key l i → insP l t = l.take i ++ [t] ++ l.drop i
  | [], t, i, hi, _, _ => by simp at hi; subst hi; rfl
  | x :: l, t, 0, _, _, hhi => by
    have := hhi 0 x (Nat.le_refl _) rfl
    rw [insP, if_neg (by omega)]; rfl
  | x :: l, t, i + 1, hi, hlo, hhi => by
    have := hlo 0 x (by omega) rfl
    rw [insP, if_pos this, insP_at (i := i) (by simpa using hi) (fun k y hk hy => hlo (k + 1) y (by omega) (by simpa using hy)) (fun k y hk hy => hhi (k + 1) y (by omega) (by simpa using hy))]
    rfl
def setP : List Pl → Pl → List Pl
  | [], _ => []
  | x :: l, t => if cmpB x.key t.key = 0 then t :: l else x :: setP l t
theorem setP_at : ∀ {ps : List Pl} {t : Pl} {i : Nat} {x : Pl}, LoP t.key ps i → ps[i]? = some x → cmpB x.key t.key = 0 → setP ps t = ps.set i t
  | [], _, _, _, _, hx, _ => by simp at hx
  | y :: ps, t, 0, x, _, hx, h0 => by simp at hx; subst hx; rw [setP, if_pos h0]; rfl
  | y :: ps, t, i + 1, x, hlo, hx, h0 => by
    have h1 := hlo 0 y (by omega) rfl
    rw [setP, if_neg (by omega), setP_at (i := i) (fun k z hk hz => hlo (k + 1) z (by omega) (by simpa using hz)) (by simpa using hx) h0]
    rfl
theorem insP_len (l : List Pl) (t : Pl) : (insP l t).length = l.length + 1 := by
  induction l with
  | nil => rfl
  | cons x l ih =>
    unfold insP
    split
    · simp [ih]
    · simp
theorem insP_mem {l : List Pl} {t y : Pl} : y ∈ insP l t ↔ y = t ∨ y ∈ l := by
  induction l with
  | nil => simp [insP]
  | cons x l ih =>
    unfold insP
    split
    · simp [ih]; constructor <;> rintro (h | h | h) <;> simp [h]
    · simp
theorem cmpB_pos {a b : ByteArray} (h1 : ¬ cmpB a b < 0) (h2 : cmpB a b ≠ 0) : cmpB b a < 0 := by
  have : cmpB b a = - cmpB a b := cb_flip
  omega
theorem insP_sorted {l : List Pl} {t : Pl} (h : Sorted l) (hn : ∀ y ∈ l, cmpB y.key t.key ≠ 0) : Sorted (insP l t) := by
  induction l with
  | nil => simp [insP, Sorted]
  | cons x l ih =>
    obtain ⟨h1, h2⟩ := List.pairwise_cons.1 h
    unfold insP
    split
    · rename_i hx
      refine List.pairwise_cons.2 ⟨fun y hy => ?_, ih h2 (fun y hy => hn y (by simp [hy]))⟩
      rcases insP_mem.1 hy with rfl | hy
      · exact hx
      · exact h1 y hy
    · rename_i hx
      have hxt := cmpB_pos hx (hn x (by simp))
      refine List.pairwise_cons.2 ⟨fun y hy => ?_, h⟩
      rcases List.mem_cons.1 hy with rfl | hy
      · exact hxt
      · exact cb_neg_trans hxt (h1 y hy)
theorem look_all {ps : List Pl} {key : ByteArray} (h : lookP ps key = none) : ∀ x ∈ ps, cmpB x.key key ≠ 0 := by
  induction ps with
  | nil => simp
  | cons y ps ih =>
    rw [lookP] at h
    by_cases h0 : cmpB y.key key = 0
    · rw [if_pos h0] at h; cases h
    · rw [if_neg h0] at h
      intro x hx
      rcases List.mem_cons.1 hx with rfl | hx
      · exact h0
      · exact ih h x hx
theorem Fine.ins {ps : List Pl} {t : Pl} (h : Fine ps) (hn : lookP ps t.key = none) (hl : ps.length < 256) (hb : t.body.length ≤ 3840) (hv : t.ver < 18446744073709551616) (ho : t.own < 18446744073709551616) : Fine (insP ps t) := by
  refine ⟨insP_sorted h.sorted (look_all hn), by rw [insP_len]; omega, ?_, ?_, ?_⟩
  all_goals (
    intro x hx
    rcases insP_mem.1 hx with rfl | hx
    · assumption
    · first | exact h.body x hx | exact h.ver x hx | exact h.own x hx)
/-- What a Put of a new key leaves. -/
theorem ins_end {w w0 W w3 : World} {p i n cap xc : Nat} {lo xo : Option Addr} {l : List Nd} {ps : List Pl} {F : List Nat} {e : Nd} (h : TreeIs w p lo n cap l ps F) (hb0 : Chg (fun _ => False) w w0) (hbW : Chg (fun _ => False) w0 W) (hi : i ≤ n) (hlo : LoP e.key ps i) (hhi : HiP e.key ps i)
    (hbody : Own w0 1 e.vo e.body.length e.vc (e.body.map cb)) (hnew : ∀ a, e.vo = some a → w.heap.size ≤ a.block) (hin : InsPost lo n ((l.flatMap Nd.cells).take (i * 4) ++ e.cells ++ (l.flatMap Nd.cells).drop (i * 4)) W w3 xo xc)
    (hp3 : w3.heap[p]? = some (.cells #[.slice lo n cap] 64 (0, 0))) :
    Wrote w (w3.setCell ⟨p, 0, none⟩ (.slice xo (n + 1) xc)) p (insP ps e.pl) F := by
  obtain ⟨ho, hch, hx⟩ := hin
  obtain ⟨hl1, hl2⟩ := h.len
  have el : (l.flatMap Nd.cells).take (i * 4) ++ e.cells ++ (l.flatMap Nd.cells).drop (i * 4) = (l.take i ++ [e] ++ l.drop i).flatMap Nd.cells := by
    rw [fl_take el_e, fl_drop el_e]
    simp
  have ep : (l.take i ++ [e] ++ l.drop i).map Nd.pl = insP ps e.pl := by
    rw [insP_at (t := e.pl) (i := i) (by omega) hlo hhi, ← h.map]
    simp [List.map_take, List.map_drop]
  rw [el] at ho
  have hC : Chg (fun _ => False) w W := hb0.trans hbW (fun _ _ h => h)
  have hC3 : Chg (· ∈ F) w w3 := (hC.to (fun _ h => h.elim)).trans hch (fun k hk ⟨a, ha, ea⟩ => h.bF k (mem_blk.2 ⟨a, ha, ea⟩))
  have hW := hC.size
  have h3 := hch.size
  have hw0 := hb0.size
  have hw0W := hbW.size
  have hpx : ∀ a, xo = some a → a.block ≠ p := fun a ha => by
    rcases hx a ha with h4 | h4
    · intro e; exact h.apart (mem_blk.2 ⟨a, h4, e⟩)
    · have := h.lt p h.pF; omega
  have hset := Chg.one w3 p 0 (.slice xo (n + 1) xc)
  have hbl : ∀ a, e.vo = some a → a.block < w0.heap.size := fun a ha => (hbody.at_ a ha).2.1
  refine ⟨F ++ blk xo ++ blk e.vo, ⟨xo, n + 1, xc, l.take i ++ [e] ++ l.drop i, ⟨ep, heap_set hp3 0 _, ho.keep hset (fun a ha e => hpx a ha e), fun hk => ?_, fun y hy => ?_, by simp [h.pF], fun k hk => by simp [hk], fun k hk => ?_⟩⟩, hC3.set h.pF 0 _, fun k hk => ?_⟩
  · obtain ⟨a, ha, ea⟩ := mem_blk.1 hk
    exact hpx a ha ea
  · have hy' : y = e ∨ y ∈ l := by
      rcases List.mem_append.1 hy with hy | hy
      · rcases List.mem_append.1 hy with hy | hy
        · exact .inr (List.mem_of_mem_take hy)
        · exact .inl (by simpa using hy)
      · exact .inr (List.mem_of_mem_drop hy)
    rcases hy' with rfl | hy'
    · have hnp : ∀ a, y.vo = some a → a.block ≠ p := fun a ha => by have := hnew a ha; have := h.lt p h.pF; omega
      have hnl : ∀ a, y.vo = some a → a.block ∉ blk lo := fun a ha hk => by have := hnew a ha; have := h.lt _ (h.bF _ hk); omega
      refine ⟨hset.row (hch.row (hbW.row hbody.row (fun _ _ h => h)) (fun a ha ⟨a', ha', ea⟩ => hnl a ha (mem_blk.2 ⟨a', ha', ea⟩))) (fun a ha h => hnp a ha h), hbody.le, fun a ha => ⟨by simp [mem_blk.2 ⟨a, ha, rfl⟩], hnp a ha, fun hk => ?_⟩⟩
      obtain ⟨a', ha', ea⟩ := mem_blk.1 hk
      rcases hx a' ha' with h4 | h4
      · exact hnl a ha (mem_blk.2 ⟨a', h4, ea⟩)
      · have := hbl a ha; omega
    · obtain ⟨b1, b2, b3⟩ := h.body y hy'
      refine ⟨hset.row (hch.row (hC.row b1 (fun _ _ h => h)) (fun a ha ⟨a', ha', ea⟩ => (b3 a ha).2.2 (mem_blk.2 ⟨a', ha', ea⟩))) (fun a ha h => (b3 a ha).2.1 h), b2, fun a ha => ⟨by simp [(b3 a ha).1], (b3 a ha).2.1, fun hk => ?_⟩⟩
      obtain ⟨a', ha', ea⟩ := mem_blk.1 hk
      rcases hx a' ha' with h4 | h4
      · exact (b3 a ha).2.2 (mem_blk.2 ⟨a', h4, ea⟩)
      · have := h.lt _ (b3 a ha).1; omega
  · have hs5 := hset.size
    rcases List.mem_append.1 hk with hk | hk
    · rcases List.mem_append.1 hk with hk | hk
      · have := h.lt k hk; omega
      · obtain ⟨a, ha, ea⟩ := mem_blk.1 hk
        have := (ho.at_ a ha).2.1; omega
    · obtain ⟨a, ha, ea⟩ := mem_blk.1 hk
      have := hbl a ha; omega
  · rcases List.mem_append.1 hk with hk | hk
    · rcases List.mem_append.1 hk with hk | hk
      · exact .inl hk
      · obtain ⟨a, ha, ea⟩ := mem_blk.1 hk
        rcases hx a ha with h4 | h4
        · exact .inl (h.bF k (mem_blk.2 ⟨a, h4, ea⟩))
        · right; omega
    · obtain ⟨a, ha, ea⟩ := mem_blk.1 hk
      right; have := hnew a ha; omega
set_option maxHeartbeats 2000000 in
set_option maxRecDepth 100000 in
theorem put_new (p : Nat) (ps : List Pl) (F : List Nat) (key : ByteArray) (vo : Option Addr) (m c : Nat) (val : List UInt8) (own : Nat) (w : World) (h : TreeAt w p ps F) (hf : Fine ps) (hk0 : key.size ≠ 0) (hk : key.size ≤ 64) (hv : Bts w vo val) (hm : val.length = m) (hm4 : m ≤ 3840) (hl : lookP ps key = none) (hlen : ps.length < 256) :
    Calls Try.prog 12 #[.pointer (some ⟨p, 0, none⟩), .string key, .slice vo m c, .int .u64 0, .int .u64 (own : Int)] w fun r w' => r = .returned (.tuple #[.int .u64 1, .int .i64 0]) ∧ Wrote w w' p (insP ps ⟨key, val, 1, own⟩) F := by
  obtain ⟨lo, n, cap, l, h⟩ := h
  have HFD := Lib.hid (find_any p lo n cap l ps F key w h hf.sorted (Nat.le_trans hf.len (by decide)))
  have HI := Lib.hid (And.intro h (And.intro hv hm))
  have hn256 : n < 256 := by have := h.len.2; omega
  have hkI : ¬ (64 : Int) < (key.size : Int) := by omega
  have hmI : ¬ (3840 : Int) < (m : Int) := by omega
  have hnI : decide ((256 : Int) ≤ (n : Int)) = false := decide_eq_false (by omega)
  have hke : key.toList.isEmpty = false := by
    rw [ba_toList]
    cases hq : key.data.toList with
    | nil => exact absurd (by show key.data.size = 0; rw [← Array.length_toList, hq]; rfl) hk0
    | cons a b => rfl
  have hkn : ¬ key.toList = [] := fun h0 => by rw [h0] at hke; cases hke
  clear h hv hm
  go_enter Try.func12, Try.ntmps12
  go_wp2_with fail
  (with_reducible refine HFD.out.mono ?_)
  rintro r w2 ⟨i, fd, rfl, hb2, hin, hlo, hhi, hfd⟩
  obtain rfl : fd = false := by
    cases fd with
    | false => rfl
    | true =>
      obtain ⟨x, hx, h0⟩ := hfd.1 rfl
      rw [look_some hlo hx h0] at hl; cases hl
  have hC2 := Chg.of_below hb2 (fun _ => False)
  obtain ⟨z0, z2⟩ := cells1 (hC2.heap HI.out.1.heap (fun h => h))
  have HCL := Lib.hid (clone_any vo m c val w2 HI.out.2.2 (by omega) (HI.out.2.1.below hb2))
  have H2 := Lib.hid (And.intro hC2 (And.intro hin (And.intro hlo (And.intro hhi hb2))))
  clear hb2 hin hlo hhi hfd hC2 hl
  go_wp2_with fail
  (with_reducible refine HCL.out.mono ?_)
  rintro r w3 ⟨bo, bc, rfl, hb3, ho3, hn3⟩
  have hC3 := H2.out.1.trans (Chg.of_below hb3 (fun _ => False)) (fun _ _ h => h)
  have H3 := Lib.hid (And.intro hC3 (And.intro (show Own w3 1 bo val.length bc (val.map cb) by rw [HI.out.2.2]; exact ho3) (fun a ha => Nat.le_trans H2.out.1.size (hn3 a ha))))
  have hA := (Chg.refl (fun _ => False) w3).alloc (.cells #[.string key, .slice bo m bc, .int .u64 1, .int .u64 (own : Int)] 32)
  have hp4 := hA.heap (hC3.heap HI.out.1.heap (fun h => h)) (fun h => h)
  have hT4 := heap_top w3 (.cells #[.string key, .slice bo m bc, .int .u64 1, .int .u64 (own : Int)] 32)
  have hI4 := HI.out.1.own.keep (hC3.trans hA (fun _ _ h => h)) (fun _ _ h => h)
  have hTl : ∀ q, lo = some q → q.block ≠ w3.heap.size := fun q hq => by have := (HI.out.1.own.at_ q hq).2.1; have := hC3.size; omega
  have hTp : ¬ w3.heap.size = p := by have := HI.out.1.lt p HI.out.1.pF; have := hC3.size; omega
  have hTp' : ¬ p = w3.heap.size := fun h => hTp h.symm
  clear z0 z2 hb3 ho3 hn3 hC3
  go_upto_region 20 with fail
  obtain ⟨u0, u2⟩ := cells1 hp4
  obtain ⟨t0, t1, t2, t3, _⟩ := cells4 hT4
  have HW := Lib.hid (And.intro hA (And.intro hp4 (And.intro hT4 (And.intro hI4 hTl))))
  clear hA hp4 hT4 hI4 hTl
  generalize w3.alloc (.cells #[.string key, .slice bo m bc, .int .u64 1, .int .u64 (own : Int)] 32) = W4 at *
  generalize w3.heap.size = T at *
  have u0d : W4.drew.cell? ⟨p, 0, none⟩ = some (.slice lo n cap) := u0
  have t0d : W4.drew.cell? ⟨T, 0, none⟩ = some (.string key) := t0
  have t1d : W4.drew.cell? ⟨T, 1, none⟩ = some (.slice bo m bc) := t1
  have t2d : W4.drew.cell? ⟨T, 2, none⟩ = some (.int .u64 1) := t2
  have t3d : W4.drew.cell? ⟨T, 3, none⟩ = some (.int .u64 (own : Int)) := t3
  have u0e : (W4.alloc (.cells #[.string key, .slice bo m bc, .int .u64 1, .int .u64 (own : Int)] 32)).drew.cell? ⟨p, 0, none⟩ = some (.slice lo n cap) := alloc_cell u0
  have hAl : Chg (fun _ => False) W4 (W4.alloc (.cells #[.string key, .slice bo m bc, .int .u64 1, .int .u64 (own : Int)] 32)).drew := ((Chg.refl (fun _ => False) W4).alloc _).drew
  have hOw := HW.out.2.2.2.1
  have hlt2 : ∀ q, lo = some q → q.block ≠ W4.heap.size := fun q hq => Nat.ne_of_lt (hOw.at_ q hq).2.1
  have HIN := Lib.hid (insert_any lo n cap (i : Int) i (l.flatMap Nd.cells) [.string key, .slice bo m bc, .int .u64 1, .int .u64 (own : Int)] W4.heap.size #[.string key, .slice bo m bc, .int .u64 1, .int .u64 (own : Int)] 32 (W4.alloc (.cells #[.string key, .slice bo m bc, .int .u64 1, .int .u64 (own : Int)] 32)).drew (hOw.keep hAl (fun _ _ h => h)) rfl H2.out.2.1 (by omega) (fl_one el_e l) rfl (by
    have := el_e.one ⟨key, val, 1, own, bo, bc⟩
    simp only [Nd.cells, HI.out.2.2] at this
    exact this) (heap_top W4 _) rfl hlt2)
  clear hOw hlt2
  go_wp2
  go_region_with (go_at_call 30; (with_reducible refine HIN.out.mono ?_); rintro r w5 ⟨xo, xc, rfl, hin5⟩; have hp5 := hin5.2.1.heap (hAl.heap HW.out.2.1 (fun h => h)) (fun ⟨q, hq, e⟩ => HI.out.1.apart (mem_blk.2 ⟨q, hq, e⟩)); obtain ⟨f0, f2⟩ := cells1 hp5; have hT5 := hin5.2.1.heap (hAl.heap HW.out.2.2.1 (fun h => h)) (fun ⟨q, hq, e⟩ => HW.out.2.2.2.2 q hq e); obtain ⟨k0, k1, k2, k3, _⟩ := cells4 hT5; have H5 := Lib.hid (And.intro hin5 hp5); clear hin5 hp5 hT5)
  all_goals go_wp2
  all_goals (
    go_ret2
    exact ⟨rfl, ins_end (e := ⟨key, val, 1, own, bo, bc⟩) HI.out.1 H3.out.1 (HW.out.1.trans hAl (fun _ _ h => h)) H2.out.2.1 H2.out.2.2.1 H2.out.2.2.2.1 H3.out.2.1 H3.out.2.2 (by simp only [Nd.cells, HI.out.2.2]; exact H5.out.1) H5.out.2⟩)
end Go.Proofs.Ytebhbfjnobcckaa
