/-
  slices.Insert's parts, over whatever program: copy of elements of several cells; what such a copy leaves of a slice that is owned; append of a made slice.
-/
import Derived.Test.YtibigfglhpdjmaaDoorFlat
import Derived.Laws.IdiomCopy
import Derived.Laws.AppendOwn
import Derived.Lib.AppendZerosOnto
import Derived.Lib.Overlaps
namespace Go.Proofs.YtibigfglhpdjmaaDoor
open Go Go.RowKit

theorem run_copy_any {P : Program} (w : World) (dT sT ty elem : TypeId) (size b o dLen dCap : Nat) (a : Addr) (sLen sCap : Nat) (cs : List Value)
    (hu : P.underlying dT = some (.slice elem)) (hs : (P.info? elem).map (·.size) = some size) (hn : cs.length = Nat.min sLen dLen * size)
    (hsrc : ∀ j v, cs[j]? = some v → w.cell? (a.add j) = some v) (hc : ∀ j, j < cs.length → (w.cell? ⟨b, o + j, none⟩).isSome = true) (hf : ∀ j, j < cs.length → w.frozen? ⟨b, o + j, none⟩ = false) (h1 : ∀ v ∈ cs, v.oneCell' = true) :
    (Builtin.copy_ #[dT, sT] ty #[.slice (some ⟨b, o, none⟩) dLen dCap, .slice (some a) sLen sCap]).run P w = .ok (goInt (Nat.min sLen dLen)) (w.setCells b o cs) := by
  have hl := run_loadCells_list (P := P) w a cs hsrc
  have hst := run_storeCells_cells (P := P) b o cs 0 w (by simpa using hc) (by simpa using hf) h1
  cases hq : P.info? elem with
  | none => simp [hq] at hs
  | some i =>
    have hi : i.size = size := by simpa [hq] using hs
    simp [Builtin.copy_, run_underlying hu, Builtin.lenOf, Builtin.firstCells, sizeOf, typeInfo, hq, hi, ← hn, hl, hst]
theorem wp_copy_at (w : World) {P : Program} {o : Oper} {a : Act} {K : Act → World → Prop} {Q : Exit → Act → World → Prop} (d s : Operand) (t t' : TypeId)
    (ho : o.op = .call { callee := .builtin .copy, args := #[d, s], argTypes := #[t, t'] }) (v u : Value) (hd : a.eval d = v) (hs : a.eval s = u) {v' : Value} {w' : World}
    (hr : (Builtin.copy_ #[t, t'] o.type #[v, u]).run P w = .ok v' w') (h : K (a.put o.dst v') w') : o.wp P a w K Q := by
  unfold Oper.wp execOp
  simp only [ho, resolve, invoke, builtin, Sem.run_bind, Sem.run_pure, Result.andThen_ok, List.map_toArray, List.map_cons, List.map_nil, hd, hs, hr]
  exact h
theorem wpList_copy_at {P : Program} (w : World) {ops : Array Oper} {rest : List Oper} {o : Oper} {a : Act} {Q : Exit → Act → World → Prop} (hgd : o.guard = none) (d s : Operand) (t t' : TypeId)
    (ho : o.op = .call { callee := .builtin .copy, args := #[d, s], argTypes := #[t, t'] }) (v u : Value) (hd : a.eval d = v) (hs : a.eval s = u) {v' : Value} {w' : World}
    (hr : (Builtin.copy_ #[t, t'] o.type #[v, u]).run P w = .ok v' w') (h : wpList P ops Q rest (a.put o.dst v') w') : wpList P ops Q (o :: rest) a w :=
  wpList_plain hgd fun _ hK => wp_copy_at w d s t t' ho v u hd hs hr (hK _ _ h)
theorem step_copy_at {P : Program} {ops : Array Oper} {o : Oper} {a : Act} {w : World} {K : Act → World → Prop} {Q : Exit → Act → World → Prop} {E : Prop}
    (hg : o.guard = none) (d x : Operand) (dT sT : TypeId) (hop : o.op = Op.call { callee := Callee.builtin Builtin.copy, args := #[d, x], argTypes := #[dT, sT] })
    (v u : Value) (hd : a.eval d = v) (hx : a.eval x = u) {v' : Value} {w' : World} (hr : (Builtin.copy_ #[dT, sT] o.type #[v, u]).run P w = .ok v' w') (hK : K (a.put o.dst v') w') :
    if Region.wanted o (yielded ops a.tmps) = true then Oper.wp P o a w K Q else E := by
  rw [if_pos (by simp [Region.wanted, hg])]
  exact wp_copy_at w d x dT sT hop v u hd hx hr hK
/-! ### what it leaves of a slice that is owned -/
theorem Own.splice {w : World} {size b off n cap : Nat} {cs : List Value} (h : Own w size (some ⟨b, off, none⟩) n cap cs) (k : Nat) (vs : List Value) (hk : k + vs.length ≤ cs.length) :
    Own (w.setCells b (off + k) vs) size (some ⟨b, off, none⟩) n cap (cs.take k ++ vs ++ cs.drop (k + vs.length)) := by
  obtain ⟨_, h2, h3, h4⟩ := h.at_ _ rfl
  simp only at h2 h3 h4
  have hlen := h.len
  have hle : n * size ≤ cap * size := Nat.mul_le_mul_right _ h.le
  have hcell : ∀ j, j < vs.length → (w.cell? ⟨b, off + k + j, none⟩).isSome = true := fun j hj => by
    have := (h3 (k + j) (by omega)).1; rwa [← Nat.add_assoc] at this
  refine ⟨by simp; omega, h.le, h.max, by simp, ?_⟩
  rintro a ⟨⟩
  refine ⟨rfl, Nat.lt_of_lt_of_le h2 (chg_setCells b vs _ w).size, fun j hj => ⟨?_, ?_⟩, fun i v hv => ?_⟩
  · by_cases hin : k ≤ j ∧ j < k + vs.length
    · have := World.cell?_setCells_in b vs (off + k) w hcell (j - k) (by omega)
      rw [show off + k + (j - k) = off + j by omega] at this
      simp only [this, Option.isSome_some]
    · rw [World.cell?_setCells_out b vs (off + k) w ⟨b, off + j, none⟩ (fun _ _ => by simp only; omega)]
      exact (h3 j hj).1
  · rw [World.frozen?_setCells]; exact (h3 j hj).2
  · by_cases hin : k ≤ i ∧ i < k + vs.length
    · have := World.cell?_setCells_in b vs (off + k) w hcell (i - k) (by omega)
      rw [show off + k + (i - k) = off + i by omega] at this
      rw [List.append_assoc, List.getElem?_append_right (by simp; omega), List.length_take, Nat.min_eq_left (by omega), List.getElem?_append_left (by omega), List.getElem?_eq_getElem (by omega)] at hv
      cases hv
      exact this
    · rw [World.cell?_setCells_out b vs (off + k) w ⟨b, off + i, none⟩ (fun _ _ => by simp only; omega)]
      by_cases hik : i < k
      · rw [List.append_assoc, List.getElem?_append_left (by simp; omega), List.getElem?_take_of_lt hik] at hv
        exact h4 i v hv
      · rw [List.getElem?_append_right (by simp; omega), List.getElem?_drop] at hv
        refine h4 i v ?_
        rw [← hv]
        congr 1
        simp
        omega
theorem Own.wider {w : World} {size b off n cap : Nat} {cs : List Value} (h : Own w size (some ⟨b, off, none⟩) n cap cs) (hn : n + 1 ≤ cap) : ∃ junk : List Value, junk.length = size ∧ Own w size (some ⟨b, off, none⟩) (n + 1) cap (cs ++ junk) := by
  obtain ⟨_, h2, h3, h4⟩ := h.at_ _ rfl
  simp only at h2 h3 h4
  have hlen := h.len
  have hmul : (n + 1) * size ≤ cap * size := Nat.mul_le_mul_right _ hn
  have hadd : (n + 1) * size = n * size + size := by rw [Nat.add_mul, Nat.one_mul]
  refine ⟨(List.range size).map (fun j => (w.cell? ⟨b, off + (n * size + j), none⟩).getD undef), by simp, ⟨by simp; omega, hn, h.max, by simp, ?_⟩⟩
  rintro a ⟨⟩
  refine ⟨rfl, h2, h3, fun i v hv => ?_⟩
  by_cases hi : i < cs.length
  · rw [List.getElem?_append_left hi] at hv
    exact h4 i v hv
  · rw [List.getElem?_append_right (by omega), List.getElem?_map] at hv
    have hr : i - cs.length < size := by
      rcases Nat.lt_or_ge (i - cs.length) size with h | h
      · exact h
      · rw [List.getElem?_eq_none (by simpa using h)] at hv; cases hv
    rw [List.getElem?_range hr] at hv
    simp at hv
    obtain ⟨u, hu⟩ := Option.isSome_iff_exists.1 (h3 i (by omega)).1
    rw [show n * size + (i - cs.length) = i by omega, hu] at hv
    simp at hv
    subst hv
    exact hu
/-- The two copies of slices.Insert, in a list of cells that is one element longer. -/
theorem Own.inserted {w : World} {size b off n cap i : Nat} {cs vs junk : List Value} (h : Own w size (some ⟨b, off, none⟩) (n + 1) cap (cs ++ junk)) (hc : cs.length = n * size) (hi : i ≤ n) (hj : junk.length = size) (hv : vs.length = size) :
    Own ((w.setCells b (off + (i + 1) * size) (cs.drop (i * size))).setCells b (off + i * size) vs) size (some ⟨b, off, none⟩) (n + 1) cap (cs.take (i * size) ++ vs ++ cs.drop (i * size)) := by
  have hmul : i * size ≤ n * size := Nat.mul_le_mul_right _ hi
  have hadd : (i + 1) * size = i * size + size := by rw [Nat.add_mul, Nat.one_mul]
  have h1 := h.splice ((i + 1) * size) (cs.drop (i * size)) (by simp; omega)
  have h2 := h1.splice (i * size) vs (by simp; omega)
  have e : (((cs ++ junk).take ((i + 1) * size) ++ cs.drop (i * size) ++ (cs ++ junk).drop ((i + 1) * size + (cs.drop (i * size)).length)).take (i * size) ++ vs ++
      ((cs ++ junk).take ((i + 1) * size) ++ cs.drop (i * size) ++ (cs ++ junk).drop ((i + 1) * size + (cs.drop (i * size)).length)).drop (i * size + vs.length)) = cs.take (i * size) ++ vs ++ cs.drop (i * size) := by
    have d0 : (cs ++ junk).drop ((i + 1) * size + (cs.drop (i * size)).length) = [] := List.drop_of_length_le (by simp; omega)
    rw [d0, List.append_nil, hv, ← hadd, List.drop_append_of_le_length (by simp; omega), List.take_append_of_le_length (by simp; omega), List.take_take, Nat.min_eq_left (by omega), List.take_append_of_le_length (by omega)]
    rw [List.drop_take, Nat.sub_self, List.take_zero, List.nil_append]
  rw [e] at h2
  exact h2
/-- The two copies of slices.Insert, in new memory. -/
theorem Own.inserted2 {w : World} {size b off n cap i : Nat} {cs vs zs : List Value} (h : Own w size (some ⟨b, off, none⟩) (n + 1) cap (cs.take (i * size) ++ zs)) (hc : cs.length = n * size) (hi : i ≤ n) (hv : vs.length = size) :
    Own ((w.setCells b (off + i * size) vs).setCells b (off + (i + 1) * size) (cs.drop (i * size))) size (some ⟨b, off, none⟩) (n + 1) cap (cs.take (i * size) ++ vs ++ cs.drop (i * size)) := by
  have hmul : i * size ≤ n * size := Nat.mul_le_mul_right _ hi
  have hadd : (i + 1) * size = i * size + size := by rw [Nat.add_mul, Nat.one_mul]
  have hadd2 : (n + 1) * size = n * size + size := by rw [Nat.add_mul, Nat.one_mul]
  have hl := h.len
  simp at hl
  have hz : zs.length = n * size + size - i * size := by omega
  have h1 := h.splice (i * size) vs (by simp; omega)
  have h2 := h1.splice ((i + 1) * size) (cs.drop (i * size)) (by simp; omega)
  have hd : ((cs.take (i * size) ++ zs).take (i * size) ++ vs ++ (cs.take (i * size) ++ zs).drop (i * size + vs.length)).length = (n + 1) * size := by simp; omega
  have hp : ((cs.take (i * size) ++ zs).take (i * size) ++ vs) = cs.take (i * size) ++ vs := by
    rw [List.take_append_of_le_length (by simp; omega), List.take_take, Nat.min_self]
  rw [List.drop_of_length_le (l := (cs.take (i * size) ++ zs).take (i * size) ++ vs ++ (cs.take (i * size) ++ zs).drop (i * size + vs.length)) (by rw [hd]; simp; omega), List.append_nil, hp, List.take_append_of_le_length (by simp; omega), List.take_of_length_le (by simp; omega)] at h2
  exact h2
theorem wpList_append_at {P : Program} (w : World) {ops : Array Oper} {rest : List Oper} {o : Oper} {a : Act} {Q : Exit → Act → World → Prop} (hgd : o.guard = none) (s x : Operand) (t t' : TypeId)
    (ho : o.op = .call { callee := .builtin .append, args := #[s, x], argTypes := #[t, t'] }) (v u : Value) (hs : a.eval s = v) (hx : a.eval x = u) {v' : Value} {w' : World}
    (hr : (Builtin.append_ #[t, t'] o.type #[v, u]).run P w = .ok v' w') (h : wpList P ops Q rest (a.put o.dst v') w') : wpList P ops Q (o :: rest) a w := by
  refine wpList_plain hgd fun K hK => ?_
  unfold Oper.wp execOp
  simp only [ho, resolve, invoke, builtin, Sem.run_bind, Sem.run_pure, Result.andThen_ok, List.map_toArray, List.map_cons, List.map_nil, hs, hx, hr]
  exact hK _ _ h
/-- append of a made slice, where there is no room. -/
theorem run_append_zeros {P : Program} {w : World} {t tn e : TypeId} {z : Value} {size bytes : Nat} (ty : TypeId) (hE : ElemOf P t e z size bytes) (htn : P.underlying tn = some (.int .i64)) {b off n cap k : Nat} {cs : List Value} {K : Int} (hK : K = (k : Int)) (h : Own w size (some ⟨b, off, none⟩) n cap cs)
    (h0 : 0 < k) (hg : cap < n + k) (h63 : n + k ≤ 4611686018427387904) (hb : (n + k) * bytes ≤ 140737488355328) :
    ∃ G w' zs, (Builtin.append_ #[t, tn] ty #[.slice (some ⟨b, off, none⟩) n cap, .int .i64 K]).run P w = .ok (.slice (some ⟨w.heap.size, 0, none⟩) (n + k) G) w' ∧ n + k ≤ G ∧ G ≤ maxLen ∧ zs.length = k * size ∧ Own w' size (some ⟨w.heap.size, 0, none⟩) (n + k) G (cs ++ zs) ∧ Chg (fun _ => False) w w' := by
  subst hK
  obtain ⟨i, hi, hz, hsize, hby⟩ := hE.info
  have hzs := hE.zsize
  have hpos := hE.pos
  subst hsize; subst hby
  obtain ⟨_, h2, h3, h4⟩ := h.at_ _ rfl
  simp only at h2 h3 h4
  have hm : n + k ≤ maxLen := by unfold maxLen; omega
  have hold : (Builtin.firstCells i.size n (.slice (some ⟨b, off, none⟩) n cap)).run P w.drew = .ok cs.toArray w.drew :=
    run_firstCells_some w.drew i.size n ⟨b, off, none⟩ n cap cs h.len (fun j v hj => by rw [add_plain]; exact h4 j v hj)
  have hkb : k * i.bytes ≤ (n + k) * i.bytes := Nat.mul_le_mul_right _ (by omega)
  have hr := Lib.run_append_grow_zeros w t tn ty e i z .i64 .i64 hE.under htn hi hz (some ⟨b, off, none⟩) n cap cs hold k h0 hpos hg (by omega) (by omega) (growslice_fits hg hb)
  have hge := grownCap_ge w (n + k) cap e
  have hcm := grownCap_le_maxLen w (n + k) cap e hm
  refine ⟨_, _, (Builtin.zeroCells z.cells k).toList, hr, hge, hcm, by rw [Array.length_toList, size_zeroCells, hzs], ?_, (Chg.refl _ _).drew.alloc _⟩
  have hzl : (Builtin.zeroCells z.cells k).size = k * i.size := by rw [size_zeroCells, hzs]
  refine Own.alloc w.drew i.size (n + k) _ _ e _ (by rw [List.length_append, h.len, Array.length_toList, hzl, Nat.add_mul]) hge hcm ?_ ?_
  · simp only [Array.size_append, List.size_toArray, size_zeroCells, hzs, h.len, ← Nat.add_mul]
    rw [show n + k + (grownCap w (n + k) cap e - (n + k)) = grownCap w (n + k) cap e by omega]
    exact Nat.le_refl _
  · simp only [Array.toList_append]
    rw [show (n + k) * i.size = (cs ++ (Builtin.zeroCells z.cells k).toList).length by rw [List.length_append, h.len, Array.length_toList, hzl, Nat.add_mul]]
    exact List.take_left
theorem shape_of {w : World} {b o : Nat} {v : Value} (h : w.cell? ⟨b, o, none⟩ = some v) : ∃ t k, w.shape? b = some (t, k) ∧ k ≠ 0 := by
  unfold World.cell? at h
  unfold World.shape?
  split at h
  · rename_i c t f hq
    simp at hq
    rw [hq]
    simp at h
    refine ⟨t, c.size, rfl, ?_⟩
    intro h0
    rw [Array.getElem?_eq_none (by omega)] at h
    cases h
  · cases h
end Go.Proofs.YtibigfglhpdjmaaDoor
