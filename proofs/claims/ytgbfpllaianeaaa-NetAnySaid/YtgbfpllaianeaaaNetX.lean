/-
  A net, and how often each byte is in it.
-/
import Derived.Test.YtgbfpllaianeaaaNetO
import Derived.Deep.WholeRow
namespace Go.Proofs.Ytgbfpllaianeaaa
open Go Go.RowKit

/-- How often each byte is there. -/
def cnt (L : List UInt8) : Array Value := (Array.range 256).map fun j => .int .i64 (L.count (UInt8.ofNat j) : Int)
theorem cnt_size (L : List UInt8) : (cnt L).size = 256 := by simp [cnt]
theorem cnt_get (L : List UInt8) (b : UInt8) : (cnt L)[b.toNat]? = some (.int .i64 (L.count b : Int)) := by
  have := b.toNat_lt
  simp [cnt, Array.getElem?_range, this]
theorem cnt_ext (L : List UInt8) (b : UInt8) (v : Value) (M : List UInt8) (h0 : v = .int .i64 (M.count b : Int)) (h : ∀ c, c ≠ b → M.count c = L.count c) : (cnt L).setIfInBounds b.toNat v = cnt M := by
  apply Array.ext_getElem?
  intro j
  rw [Array.getElem?_setIfInBounds]
  by_cases hj : b.toNat = j
  · subst hj
    have := b.toNat_lt
    rw [if_pos rfl, if_pos (by rw [cnt_size]; omega), cnt_get, h0]
  · rw [if_neg hj]
    by_cases h256 : j < 256
    · have hc : UInt8.ofNat j ≠ b := fun e => hj (by rw [← e, UInt8.toNat_ofNat']; omega)
      simp [cnt, h256, h _ hc]
    · rw [Array.getElem?_eq_none (by rw [cnt_size]; omega), Array.getElem?_eq_none (by rw [cnt_size]; omega)]
theorem cnt_more (L : List UInt8) (b : UInt8) (v : Int) (hv : v = (L.count b : Int) + 1) : (cnt L).setIfInBounds b.toNat (.int .i64 v) = cnt (L ++ [b]) := by
  refine cnt_ext L b _ _ ?_ (fun c hc => ?_)
  · rw [hv, List.count_append]; simp
  · rw [List.count_append, List.count_cons_of_ne (Ne.symm hc)]; simp
theorem cnt_less (L : List UInt8) (b : UInt8) (k : Nat) (v : Int) (hk : L[k]? = some b) (hv : v = (L.count b : Int) - 1) : (cnt L).setIfInBounds b.toNat (.int .i64 v) = cnt (L.eraseIdx k) := by
  obtain ⟨hlt, he⟩ := List.getElem?_eq_some_iff.1 hk
  have h1 : L = L.take k ++ b :: L.drop (k + 1) := by rw [← he, ← List.drop_eq_getElem_cons hlt, List.take_append_drop]
  have h2 := List.eraseIdx_eq_take_drop_succ (l := L) (i := k)
  rw [h2]
  generalize L.take k = l1 at *
  generalize L.drop (k + 1) = l2 at *
  subst h1
  refine cnt_ext _ b _ _ ?_ (fun c hc => ?_)
  · rw [hv, List.count_append, List.count_append, List.count_cons_self]; congr 1; omega
  · rw [List.count_append, List.count_append, List.count_cons_of_ne (Ne.symm hc)]
theorem zero_cnt (w : World) : (zeroValue 37).run Try.prog w = .ok (.agg (cnt [])) w := by kernel_rfl
theorem eql_cnt (w : World) : (Op.equalIn 10000 37 (.agg (cnt [])) (.agg (cnt []))).run Try.prog w = .ok true w := by kernel_rfl
/-- A whole array, loaded. -/
theorem wpList_load_row {P : Program} {w : World} {ops : Array Oper} {rest : List Oper} {o : Oper} {a : Act} {Q : Exit → Act → World → Prop} (hgd : o.guard = none) (x : Operand) {t e : TypeId} {T n : Nat} {c : Array Value} (ho : o.op = .load t x) (hx : a.eval x = .pointer (some ⟨T, 0, none⟩))
    (hc : w.heap[T]? = some (.cells c t (0, 0))) (hu : P.underlying t = some (.array n e)) (hi : (P.info? t).map (·.size) = some c.size) (h : wpList P ops Q rest (a.put o.dst (.agg c)) w) : wpList P ops Q (o :: rest) a w := by
  refine wpList_plain hgd fun K hK => ?_
  have hr := run_loadVar_row (P := P) w T t t c (0, 0) _ hc hu rfl hi
  unfold Oper.wp execOp
  simp only [ho, hx, Instr.loadAt, Instr.sureAddr, Sem.run_bind, Sem.run_pure, Result.andThen_ok, hr]
  exact hK _ _ h
theorem cnt_info : (Try.prog.info? 37).map (·.size) = some (cnt []).size := by kernel_rfl
def msg (b : UInt8) : Msg := ⟨0, 0, [b]⟩
/-- A net of one-byte messages, and counts at block T. -/
structure NetC (w0 w : World) (p T : Nat) (L M : List UInt8) : Prop where
  net : ∃ F, NetIn w0 w p (L.map msg) F ∧ T ∉ F
  cells : w.heap[T]? = some (.cells (cnt M) 37 (0, 0))
  new : w0.heap.size ≤ T
theorem NetC.below {w0 w : World} {p T : Nat} {L M : List UInt8} (h : NetC w0 w p T L M) : Below w0.heap.size w0 w := by
  obtain ⟨F, h, _⟩ := h.net; exact h.below
theorem NetC.stays {w0 w w' : World} {p T : Nat} {L M : List UInt8} (h : NetC w0 w p T L M) (hb : Below w.heap.size w w') : NetC w0 w' p T L M := by
  obtain ⟨⟨F, h1, h2⟩, h3, h4⟩ := h
  exact ⟨⟨F, h1.stays hb, h2⟩, (Chg.of_below hb (fun _ => False)).heap h3 (fun h => h), h4⟩
theorem NetC.alloc {w0 w : World} {p T : Nat} {L M : List UInt8} (h : NetC w0 w p T L M) (o : Obj) : NetC w0 (w.alloc o) p T L M := h.stays ((Below.refl _ w).alloc (Nat.le_refl _) o)
theorem NetC.drew {w0 w : World} {p T : Nat} {L M : List UInt8} (h : NetC w0 w p T L M) : NetC w0 w.drew p T L M := h.stays (Below.refl _ w).drew
theorem NetC.cell {w0 w : World} {p T : Nat} {L M : List UInt8} (h : NetC w0 w p T L M) (b : UInt8) : w.cell? ⟨T, b.toNat, none⟩ = some (.int .i64 (M.count b : Int)) ∧ w.frozen? ⟨T, b.toNat, none⟩ = false := by
  exact ⟨(heap_cell h.cells _).trans (cnt_get M b), heap_frozen h.cells _⟩
theorem NetC.set {w0 w : World} {p T : Nat} {L M M' : List UInt8} (h : NetC w0 w p T L M) (b : UInt8) (v : Value) (hv : (cnt M).setIfInBounds b.toNat v = cnt M') : NetC w0 (w.setCell ⟨T, b.toNat, none⟩ v) p T L M' := by
  obtain ⟨⟨F, h1, h2⟩, h3, h4⟩ := h
  refine ⟨⟨F, h1.keep (Chg.one w T b.toNat v) (fun k hk e => h2 (e ▸ hk)) (fun k e => e ▸ h4), h2⟩, ?_, h4⟩
  rw [← hv]; exact heap_set h3 _ _
theorem NetC.wrote {w0 w w' : World} {p T : Nat} {L L' M : List UInt8} {F F' : List Nat} (h : NetIn w0 w p (L.map msg) F) (hT : T ∉ F) (h3 : w.heap[T]? = some (.cells (cnt M) 37 (0, 0))) (h4 : w0.heap.size ≤ T) (hn : NetAt w' p (L'.map msg) F') (hc : Chg (· ∈ F) w w') (hg : Grew w F F') : NetC w0 w' p T L' M := by
  refine ⟨⟨F', h.wrote hn hc hg, fun hk => ?_⟩, hc.heap h3 hT, h4⟩
  rcases hg T hk with h | h
  · exact hT h
  · have := heap_lt h3; omega
theorem send_c (w0 : World) (p T : Nat) (L M : List UInt8) (ao : Option Addr) (c : Nat) (b : UInt8) (w : World) (hb : Bts w ao [b]) (h : NetC w0 w p T L M) (hm : L.length < 4096) :
    Calls Try.prog 10 #[.pointer (some ⟨p, 0, none⟩), .agg #[.int .i64 0, .int .i64 0, .slice ao 1 c]] w fun e w' => e = .returned (.int .i64 0) ∧ NetC w0 w' p T (L ++ [b]) M := by
  obtain ⟨⟨F, h1, h2⟩, h3, h4⟩ := h
  refine (send_any p (L.map msg) F 0 0 ao 1 c [b] w (by omega) rfl hb h1.net (by simpa using hm)).mono ?_
  rintro e w' ⟨rfl, F', k1, k2, k3⟩
  exact ⟨rfl, NetC.wrote h1 h2 h3 h4 (by simpa [msg] using k1) k2 k3⟩
theorem double_c (w0 : World) (p T : Nat) (L M : List UInt8) (I : Int) (i : Nat) (b : UInt8) (w : World) (h : NetC w0 w p T L M) (hI : I = (i : Int)) (hi : L[i]? = some b) (hm : L.length < 4096) :
    Calls Try.prog 11 #[.pointer (some ⟨p, 0, none⟩), .int .i64 I] w fun e w' => e = .returned (.int .i64 0) ∧ NetC w0 w' p T (L ++ [b]) M := by
  obtain ⟨⟨F, h1, h2⟩, h3, h4⟩ := h
  refine (double_any p (L.map msg) F I i (msg b) w h1.net hI (by rw [List.getElem?_map, hi]; rfl) (by simp [msg]) (by simpa using hm)).mono ?_
  rintro e w' ⟨rfl, F', k1, k2, k3⟩
  exact ⟨rfl, NetC.wrote h1 h2 h3 h4 (by simpa using k1) k2 k3⟩
theorem take_c (w0 : World) (p T : Nat) (L M : List UInt8) (I : Int) (i : Nat) (b : UInt8) (w : World) (h : NetC w0 w p T L M) (hI : I = (i : Int)) (hi : L[i]? = some b) (hm : L.length ≤ 4096) :
    Calls Try.prog 13 #[.pointer (some ⟨p, 0, none⟩), .int .i64 I] w fun e w' => ∃ bo c, e = .returned (.tuple #[.agg #[.int .i64 0, .int .i64 0, .slice bo 1 c], .int .i64 0]) ∧ NetC w0 w' p T (L.eraseIdx i) M ∧ Own w' 1 bo 1 c [cb b] ∧ ∀ a, bo = some a → a.block ≠ T := by
  obtain ⟨⟨F, h1, h2⟩, h3, h4⟩ := h
  refine (take_any p (L.map msg) F I i (msg b) w h1.net hI (by rw [List.getElem?_map, hi]; rfl) (by simpa using hm)).mono ?_
  rintro e w' ⟨v, rfl, bo, c, F', rfl, k1, k2, k3, k4, k5⟩
  refine ⟨bo, c, rfl, NetC.wrote h1 h2 h3 h4 (F' := F') ?_ k5 (fun k hk => .inl (k4 k hk)), k2, fun a ha e => h2 (e ▸ (k3 a ha).1)⟩
  rwa [List.eraseIdx_eq_take_drop_succ, ← List.map_take, ← List.map_drop, ← List.map_append, ← List.eraseIdx_eq_take_drop_succ] at k1
theorem len_c (w0 : World) (p T : Nat) (L M : List UInt8) (N : Nat) (w : World) (h : NetC w0 w p T L M) (hN : L.length = N) :
    Calls Try.prog 14 #[.pointer (some ⟨p, 0, none⟩)] w fun e w' => e = .returned (.int .i64 (N : Int)) ∧ w = w' := by
  obtain ⟨⟨F, h1, h2⟩, h3, h4⟩ := h
  subst hN
  exact len_in w0 p (L.map msg) F _ w h1 (by simp)
theorem all_c (w0 : World) (p T : Nat) (L M : List UInt8) (N i : Nat) (b : UInt8) (w : World) (h : NetC w0 w p T L M) (hN : L.length = N) (hk : N ≤ 4096) (hi : L[i]? = some b) :
    Calls Try.prog 12 #[.pointer (some ⟨p, 0, none⟩)] w fun e w' => ∃ z off cap bo c, e = .returned (.slice (some ⟨z, off, none⟩) N cap) ∧ NetC w0 w' p T L M ∧ w'.cell? ⟨z, off + i * 3 + 2, none⟩ = some (.slice bo 1 c) ∧ Own w' 1 bo 1 c [cb b] := by
  obtain ⟨⟨F, h1, h2⟩, h3, h4⟩ := h
  subst hN
  refine (all_any p (L.map msg) F w h1.net (by simpa using hk) (by intro m hm; obtain ⟨x, _, rfl⟩ := List.mem_map.1 hm; simp [msg])).mono ?_
  rintro e w' ⟨oo, cap, es, rfl, k1, k2, k3, k4⟩
  obtain ⟨z, off, e, rfl, g0, g1, g2, g3, g4, g5⟩ := k1.at' (i := i) (m := msg b) k2 (by rw [List.getElem?_map, hi]; rfl)
  have hE := k1.ent e (List.mem_of_getElem? g4)
  unfold Ent.At at hE
  rw [g5] at hE
  refine ⟨z, off, cap, e.bo, e.cap, by rw [List.length_map], NetC.stays ⟨⟨F, h1, h2⟩, h3, h4⟩ k4, g2, hE⟩
theorem pick_at {x N : Nat} (hN : 0 < N) : ∃ K : Nat, (x : Int) / 2 % (N : Int) = (K : Int) ∧ K < N := ⟨x / 2 % N, by simp, Nat.mod_lt _ hN⟩
/-- What a byte's count is, with one more, with one less. -/
theorem cnt_facts {L : List UInt8} {b : UInt8} {K : Nat} (hK : L[K]? = some b) (hl : L.length ≤ 1000) : wrap64 ((L.count b : Int) + 1) = (L.count b : Int) + 1 ∧ wrap64 ((L.count b : Int) - 1) = (L.count b : Int) - 1 ∧ ¬ ((L.count b : Int) - 1 < 0) ∧ (b.toNat : Int) < 256 := by
  have hcl : L.count b ≤ L.length := List.count_le_length
  have hc1 : 0 < L.count b := List.count_pos_iff.2 (List.mem_of_getElem? hK)
  have hbt := b.toNat_lt
  exact ⟨IntWalk.wrap64_in _ (by omega), IntWalk.wrap64_in _ (by omega), by omega, by omega⟩
/-- A byte that is owned. -/
theorem own_byte {w : World} {bo : Option Addr} {c : Nat} {b : UInt8} (h : Own w 1 bo 1 c [cb b]) : ∃ z off, bo = some ⟨z, off, none⟩ ∧ w.cell? ⟨z, off, none⟩ = some (.int .u8 (b.toNat : Int)) := by
  obtain ⟨z, off, rfl⟩ := own_some (l := [b]) h (by omega)
  exact ⟨z, off, rfl, by simpa [cb] using (h.cellAt (k := 0) (v := cb b) rfl).1⟩
/-- Behind a count's store the message that was taken is as it was. -/
theorem after_set {w0 w5 : World} {p T zq oq bc : Nat} {b : UInt8} {L M : List UInt8} (v : Value) (h : NetC w0 w5 p T L M) (ho : Own w5 1 (some ⟨zq, oq, none⟩) 1 bc [cb b]) (hT : zq ≠ T) :
    ((w5.alloc (.cells #[.int .i64 0, .int .i64 0, .slice (some ⟨zq, oq, none⟩) 1 bc] 29)).setCell ⟨T, b.toNat, none⟩ v).cell? ⟨w5.heap.size, 2, none⟩ = some (.slice (some ⟨zq, oq, none⟩) 1 bc) ∧
    ((w5.alloc (.cells #[.int .i64 0, .int .i64 0, .slice (some ⟨zq, oq, none⟩) 1 bc] 29)).setCell ⟨T, b.toNat, none⟩ v).cell? ⟨zq, oq, none⟩ = some (.int .u8 (b.toNat : Int)) ∧
    ((w5.alloc (.cells #[.int .i64 0, .int .i64 0, .slice (some ⟨zq, oq, none⟩) 1 bc] 29)).setCell ⟨T, b.toNat, none⟩ v).cell? ⟨T, b.toNat, none⟩ = some v := by
  have hTl := heap_lt h.cells
  have hA := (Chg.refl (fun _ => False) w5).alloc (.cells #[.int .i64 0, .int .i64 0, .slice (some ⟨zq, oq, none⟩) 1 bc] 29)
  have h0 := heap_far (a := ⟨T, b.toNat, none⟩) (heap_top w5 (.cells #[.int .i64 0, .int .i64 0, .slice (some ⟨zq, oq, none⟩) 1 bc] 29)) (by simp; omega) v
  obtain ⟨z, off, hz, hq⟩ := own_byte (ho.keep hA (fun _ _ h => h))
  cases hz
  refine ⟨(cells3 h0).2.2.1, ?_, ?_⟩
  · rw [World.cell?_setCell_other (h := by intro q; simp at q <;> exact hT q.1.symm)]; exact hq
  · exact World.cell?_setCell_same _ _ _ ((h.alloc _).cell b).1
end Go.Proofs.Ytgbfpllaianeaaa
