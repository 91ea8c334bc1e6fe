/-
  JOINED BY fam.py out of: Nd, BsN, Ins, InsN.
-/
import Derived.Test.YtackmgmaippajaaGreatProg
import Derived.Test.YtackmgmaippajaaGreatFB
import Derived.Deep.LoopGhost
import Derived.Deep.QuietTactic
import Derived.BigQuiet
import Derived.WalkLawsBesides
import Derived.WalkSpells
import Derived.Lib.SliceRun
import Derived.Deep.DeepCutAuto
import Derived.Deep.CutBlock
import Derived.Deep.RegionLaw
import Derived.Deep.RegionWith
import Derived.Handy
import Derived.Laws.IdiomCopy
import Derived.Laws.AppendOwn
import Derived.Lib.AppendZerosOnto
import Derived.Lib.Overlaps
import Derived.Laws.Externs
-- part Nd
namespace Go.Proofs.YtackmgmaippajaaGreat
set_option maxRecDepth 100000
open Go Go.RowKit

/-- A node: its key, its value's bytes, version, session; where its bytes lie. -/
structure Nd where
  key : ByteArray
  body : List UInt8
  ver : Nat
  own : Nat
  vo : Option Addr
  vc : Nat
def Nd.cells (e : Nd) : List Value := [.string e.key, .slice e.vo e.body.length e.vc, .int .u64 (e.ver : Int), .int .u64 (e.own : Int)]
def Nd.val (e : Nd) : Value := .agg #[.string e.key, .slice e.vo e.body.length e.vc, .int .u64 (e.ver : Int), .int .u64 (e.own : Int)]
theorem el_e : Elem Nd.cells 4 := ⟨fun _ => rfl, by decide, fun e u hu => by simp [Nd.cells] at hu; rcases hu with rfl | rfl | rfl | rfl <;> rfl⟩
theorem alloc_cell {w : World} {a : Addr} {v : Value} {o : Obj} (h : w.cell? a = some v) : (w.alloc o).cell? a = some v := by
  rw [World.cell?_alloc_lt _ _ _ (World.block_lt_of_cell? w a h)]; exact h
theorem cells4 {w : World} {p : Nat} {a b c d : Value} {t : TypeId} (h : w.heap[p]? = some (.cells #[a, b, c, d] t (0, 0))) :
    w.cell? ⟨p, 0, none⟩ = some a ∧ w.cell? ⟨p, 1, none⟩ = some b ∧ w.cell? ⟨p, 2, none⟩ = some c ∧ w.cell? ⟨p, 3, none⟩ = some d ∧ ∀ i, w.frozen? ⟨p, i, none⟩ = false := by
  have h0 := heap_cell h 0
  have h1 := heap_cell h 1
  have h2 := heap_cell h 2
  have h3 := heap_cell h 3
  simp at h0 h1 h2 h3
  exact ⟨h0, h1, h2, h3, fun i => heap_frozen h i⟩
end Go.Proofs.YtackmgmaippajaaGreat
-- part BsN
namespace Go.Proofs.YtackmgmaippajaaGreat
set_option maxRecDepth 100000
open Go Go.RowKit

/-- How elements stand to a target. -/
structure CmpBy (P : Program) (f : Nat) (tv : Value) (ck : Nd → Int) (es : List Nd) : Prop where
  fn : ∀ args w, (callFunc f args).run P w = .ok (.enter f args) w
  by' : ∀ e w, e ∈ es → Calls P f #[e.val, tv] w fun r w' => r = .returned (.int .i64 (ck e)) ∧ Below w.heap.size w w'
def Lo (ck : Nd → Int) (es : List Nd) (i : Nat) : Prop := ∀ (k : Nat) (x : Nd), k < i → es[k]? = some x → ck x < 0
def Hi (ck : Nd → Int) (es : List Nd) (i : Nat) : Prop := ∀ (k : Nat) (x : Nd), i ≤ k → es[k]? = some x → 0 ≤ ck x
theorem row_at' {w : World} {lo : Option Addr} {es : List Nd} {k : Nat} {e : Nd} (h : Row w lo (es.flatMap Nd.cells)) (he : es[k]? = some e) :
    ∃ b off, lo = some ⟨b, off, none⟩ ∧ ∀ j v, e.cells[j]? = some v → w.cell? ⟨b, off + (k * 4 + j), none⟩ = some v := by
  have h0 := fl_get el_e he (show 0 < 4 by omega)
  obtain ⟨b, off, rfl, hc⟩ := h (by
    intro e0
    rw [e0] at h0
    have := el_e.len e
    rw [List.getElem?_eq_getElem (l := e.cells) (by omega)] at h0
    cases h0)
  refine ⟨b, off, rfl, fun j v hj => hc _ _ ?_⟩
  have hjs : j < 4 := by
    have := (List.getElem?_eq_some_iff.1 hj).1
    rwa [el_e.len] at this
  rw [fl_get el_e he hjs, hj]
set_option maxHeartbeats 2000000 in
set_option maxRecDepth 100000 in
theorem bs_any {f : Nat} {ck : Nd → Int} (tg : ByteArray) (lo : Option Addr) (n cap : Nat) (es : List Nd) (w : World) (hr : Row w lo (es.flatMap Nd.cells)) (hn : es.length = n) (hm : n ≤ 1000000) (h : CmpBy Tryz.prog f (.string tg) ck es)
    (mono : ∀ (i j : Nat) (x y : Nd), i ≤ j → es[i]? = some x → es[j]? = some y → 0 ≤ ck x → 0 ≤ ck y) :
    Calls Tryz.prog 121 #[.slice lo n cap, .string tg, .func (.func f) #[] #[]] w fun e w' => ∃ (i : Nat) (fd : Bool), e = .returned (.tuple #[.int .i64 (i : Int), .bool fd]) ∧ Below w.heap.size w w' ∧ i ≤ n ∧ Lo ck es i ∧ Hi ck es i ∧ (fd = true ↔ ∃ x, es[i]? = some x ∧ ck x = 0) := by
  have hfn := h.fn
  have HH := Lib.hid (And.intro hr (And.intro hn (And.intro h.by' mono)))
  clear hr hn h mono
  go_enter Tryz.func121, Tryz.ntmps121
  go_wp2
  go_loopg [9, 10] n (fun g vi vj wr => ∃ i j : Nat, g + i = j ∧ vi = .int .i64 i ∧ vj = .int .i64 j ∧ j ≤ n ∧ Lo ck es i ∧ Hi ck es j ∧ Below w.heap.size w wr)
  case atStart => exact ⟨0, n, rfl, rfl, rfl, Nat.le_refl _, fun _ _ h => by omega, fun k x hk hx => by have := (List.getElem?_eq_some_iff.1 hx).1; have := HH.out.2.1; omega, Below.refl _ _⟩
  case round =>
    obtain ⟨i, j, hg, rfl, rfl, hjn, hlo, hhi, hb⟩ := hrel
    have HR := Lib.hid (And.intro hlo (And.intro hhi hb))
    by_cases hij : i < j
    · have hadd := IntWalk.i64_in ((i : Int) + (j : Int)) (by omega)
      obtain ⟨m, hm2, hmi, hmj⟩ : ∃ m : Nat, ((i : Int) + (j : Int)) / 2 = (m : Int) ∧ i ≤ m ∧ m < j := ⟨(i + j) / 2, by omega, by omega, by omega⟩
      have hm1 := IntWalk.i64_in ((m : Int) + 1) (by omega)
      have hmn : (m : Int) < (n : Int) := by omega
      have hm0 : (0 : Int) ≤ (m : Int) := by omega
      obtain ⟨e, he⟩ : ∃ e, es[m]? = some e := ⟨_, List.getElem?_eq_getElem (by rw [HH.out.2.1]; omega)⟩
      obtain ⟨b, off, rfl, hcs⟩ := row_at' (HH.out.1.below hb) he
      have HE := Lib.hid (And.intro he (HH.out.2.2.1 e wr (List.mem_of_getElem? he)))
      obtain ⟨xk, xb, xv, xw, xo, xc⟩ := e
      have q0 := hcs 0 _ rfl
      have q1 := hcs 1 _ rfl
      have q2 := hcs 2 _ rfl
      have q3 := hcs 3 _ rfl
      simp only [Nat.add_zero, ← Nat.add_assoc] at q0 q1 q2 q3
      clear hcs he hlo hhi hb
      have hcall : Calls Tryz.prog f #[.agg #[.string xk, .slice xo xb.length xc, .int .u64 (xv : Int), .int .u64 (xw : Int)], .string tg] wr (fun r w' => r = .returned (.int .i64 (ck ⟨xk, xb, xv, xw, xo, xc⟩)) ∧ Below wr.heap.size wr w') := HE.out.2
      generalize hck : ck ⟨xk, xb, xv, xw, xo, xc⟩ = c at *
      have HE := Lib.hid (And.intro HE.out.1 (And.intro hck hcall))
      clear hck hcall
      have hcc : c < 0 ∨ 0 ≤ c := by omega
      rcases hcc with hc | hc
      · as_aux_lemma =>
          go_wp2_with ((with_reducible refine HE.out.2.2.mono ?_); rintro r w1 ⟨rfl, hb1⟩; have H1 := Lib.hid hb1; clear hb1)
          go_roundg (j - (m + 1))
          case measure => omega
          case rel => exact ⟨m + 1, j, by omega, by go_num, rfl, hjn, fun k x hk hx => by
              by_cases h0 : 0 ≤ ck x
              · have := HH.out.2.2.2 k m x _ (by omega) hx HE.out.1 h0
                rw [HE.out.2.1] at this; omega
              · omega, HR.out.2.1, HR.out.2.2.trans (H1.out.mono HR.out.2.2.size)⟩
      · as_aux_lemma =>
          have hc' : decide (c < 0) = false := decide_eq_false (by omega)
          go_wp2_with ((with_reducible refine HE.out.2.2.mono ?_); rintro r w1 ⟨rfl, hb1⟩; have H1 := Lib.hid hb1; clear hb1)
          go_roundg (m - i)
          case measure => omega
          case rel => exact ⟨i, m, by omega, rfl, rfl, by omega, HR.out.1, fun k x hk hx => HH.out.2.2.2 m k _ x hk HE.out.1 hx (by rw [HE.out.2.1]; exact hc), HR.out.2.2.trans (H1.out.mono HR.out.2.2.size)⟩
    · obtain rfl : i = j := by omega
      have HB := Lib.hid hb
      by_cases hin : i < n
      · have hinI : (i : Int) < (n : Int) := by omega
        have hi0 : (0 : Int) ≤ (i : Int) := by omega
        obtain ⟨e, he⟩ : ∃ e, es[i]? = some e := ⟨_, List.getElem?_eq_getElem (by rw [HH.out.2.1]; omega)⟩
        obtain ⟨b, off, rfl, hcs⟩ := row_at' (HH.out.1.below hb) he
        have HE := Lib.hid (And.intro he (HH.out.2.2.1 e wr (List.mem_of_getElem? he)))
        obtain ⟨xk, xb, xv, xw, xo, xc⟩ := e
        have q0 := hcs 0 _ rfl
        have q1 := hcs 1 _ rfl
        have q2 := hcs 2 _ rfl
        have q3 := hcs 3 _ rfl
        simp only [Nat.add_zero, ← Nat.add_assoc] at q0 q1 q2 q3
        clear hcs he hlo hhi hb
        have hcall : Calls Tryz.prog f #[.agg #[.string xk, .slice xo xb.length xc, .int .u64 (xv : Int), .int .u64 (xw : Int)], .string tg] wr (fun r w' => r = .returned (.int .i64 (ck ⟨xk, xb, xv, xw, xo, xc⟩)) ∧ Below wr.heap.size wr w') := HE.out.2
        generalize hck : ck ⟨xk, xb, xv, xw, xo, xc⟩ = c at *
        have HE := Lib.hid (And.intro HE.out.1 (And.intro hck hcall))
        clear hck hcall
        as_aux_lemma =>
          go_wp2_with ((with_reducible refine HE.out.2.2.mono ?_); rintro r w1 ⟨rfl, hb1⟩; have H1 := Lib.hid hb1; clear hb1)
          go_ret2
          refine ⟨i, _, rfl, HB.out.trans (H1.out.mono HB.out.size), hjn, HR.out.1, HR.out.2.1, ?_⟩
          rw [beq_iff_eq]
          constructor
          · rintro rfl; exact ⟨_, HE.out.1, HE.out.2.1⟩
          · rintro ⟨x, hx, hx0⟩
            have := HE.out.1.symm.trans hx
            cases this
            rw [← HE.out.2.1]; exact hx0
      · have hinI : decide ((i : Int) < (n : Int)) = false := decide_eq_false (by omega)
        have hinJ : ¬ (i : Int) < (n : Int) := by omega
        clear hlo hhi hb
        as_aux_lemma =>
          go_wp2
          go_ret2
          refine ⟨i, .inl ⟨rfl, HB.out, hjn, HR.out.1, HR.out.2.1, fun x hx _ => ?_⟩⟩
          have := (List.getElem?_eq_some_iff.1 hx).1
          have := HH.out.2.1
          omega
end Go.Proofs.YtackmgmaippajaaGreat
-- part Ins
namespace Go.Proofs.YtackmgmaippajaaGreat
set_option maxRecDepth 100000
open Go Go.RowKit

theorem run_copy_any {P : Program} (w : World) (dT sT ty elem : TypeId) (size b o dLen dCap : Nat) (a : Addr) (sLen sCap : Nat) (cs : List Value)
    (hu : P.underlying dT = some (.slice elem)) (hs : (P.info? elem).map (·.size) = some size) (hn : cs.length = Nat.min sLen dLen * size)
    (hsrc : ∀ j v, cs[j]? = some v → w.cell? (a.add j) = some v) (hc : ∀ j, j < cs.length → (w.cell? ⟨b, o + j, none⟩).isSome = true) (hf : ∀ j, j < cs.length → w.frozen? ⟨b, o + j, none⟩ = false) (h1 : ∀ v ∈ cs, v.oneCell' = true) :
    (Builtin.copy_ #[dT, sT] ty #[.slice (some ⟨b, o, none⟩) dLen dCap, .slice (some a) sLen sCap]).run P w = .ok (goInt (Nat.min sLen dLen)) (w.setCells b o cs) := by
  have hl := run_loadCells_list (P := P) w a cs hsrc
  have hst := run_storeCells_cells (P := P) b o cs 0 w (by simpa using hc) (by simpa using hf) h1
  cases hq : P.info? elem with
  | none => simp [hq] at hs
  | some i =>
    have hi : i.size = size := by simpa [hq] using hs
    simp [Builtin.copy_, run_underlying hu, Builtin.lenOf, Builtin.firstCells, sizeOf, typeInfo, hq, hi, ← hn, hl, hst]
theorem wp_copy_at (w : World) {P : Program} {o : Oper} {a : Act} {K : Act → World → Prop} {Q : Exit → Act → World → Prop} (d s : Operand) (t t' : TypeId)
    (ho : o.op = .call { callee := .builtin .copy, args := #[d, s], argTypes := #[t, t'] }) (v u : Value) (hd : a.eval d = v) (hs : a.eval s = u) {v' : Value} {w' : World}
    (hr : (Builtin.copy_ #[t, t'] o.type #[v, u]).run P w = .ok v' w') (h : K (a.put o.dst v') w') : o.wp P a w K Q := by
  unfold Oper.wp execOp
  simp only [ho, resolve, invoke, builtin, Sem.run_bind, Sem.run_pure, Result.andThen_ok, List.map_toArray, List.map_cons, List.map_nil, hd, hs, hr]
  exact h
theorem wpList_copy_at {P : Program} (w : World) {ops : Array Oper} {rest : List Oper} {o : Oper} {a : Act} {Q : Exit → Act → World → Prop} (hgd : o.guard = none) (d s : Operand) (t t' : TypeId)
    (ho : o.op = .call { callee := .builtin .copy, args := #[d, s], argTypes := #[t, t'] }) (v u : Value) (hd : a.eval d = v) (hs : a.eval s = u) {v' : Value} {w' : World}
    (hr : (Builtin.copy_ #[t, t'] o.type #[v, u]).run P w = .ok v' w') (h : wpList P ops Q rest (a.put o.dst v') w') : wpList P ops Q (o :: rest) a w :=
  wpList_plain hgd fun _ hK => wp_copy_at w d s t t' ho v u hd hs hr (hK _ _ h)
theorem step_copy_at {P : Program} {ops : Array Oper} {o : Oper} {a : Act} {w : World} {K : Act → World → Prop} {Q : Exit → Act → World → Prop} {E : Prop}
    (hg : o.guard = none) (d x : Operand) (dT sT : TypeId) (hop : o.op = Op.call { callee := Callee.builtin Builtin.copy, args := #[d, x], argTypes := #[dT, sT] })
    (v u : Value) (hd : a.eval d = v) (hx : a.eval x = u) {v' : Value} {w' : World} (hr : (Builtin.copy_ #[dT, sT] o.type #[v, u]).run P w = .ok v' w') (hK : K (a.put o.dst v') w') :
    if Region.wanted o (yielded ops a.tmps) = true then Oper.wp P o a w K Q else E := by
  rw [if_pos (by simp [Region.wanted, hg])]
  exact wp_copy_at w d x dT sT hop v u hd hx hr hK
/-! ### what it leaves of a slice that is owned -/
theorem Own.splice {w : World} {size b off n cap : Nat} {cs : List Value} (h : Own w size (some ⟨b, off, none⟩) n cap cs) (k : Nat) (vs : List Value) (hk : k + vs.length ≤ cs.length) :
    Own (w.setCells b (off + k) vs) size (some ⟨b, off, none⟩) n cap (cs.take k ++ vs ++ cs.drop (k + vs.length)) := by
  obtain ⟨_, h2, h3, h4⟩ := h.at_ _ rfl
  simp only at h2 h3 h4
  have hlen := h.len
  have hle : n * size ≤ cap * size := Nat.mul_le_mul_right _ h.le
  have hcell : ∀ j, j < vs.length → (w.cell? ⟨b, off + k + j, none⟩).isSome = true := fun j hj => by
    have := (h3 (k + j) (by omega)).1; rwa [← Nat.add_assoc] at this
  refine ⟨by simp; omega, h.le, h.max, by simp, ?_⟩
  rintro a ⟨⟩
  refine ⟨rfl, Nat.lt_of_lt_of_le h2 (chg_setCells b vs _ w).size, fun j hj => ⟨?_, ?_⟩, fun i v hv => ?_⟩
  · by_cases hin : k ≤ j ∧ j < k + vs.length
    · have := World.cell?_setCells_in b vs (off + k) w hcell (j - k) (by omega)
      rw [show off + k + (j - k) = off + j by omega] at this
      simp only [this, Option.isSome_some]
    · rw [World.cell?_setCells_out b vs (off + k) w ⟨b, off + j, none⟩ (fun _ _ => by simp only; omega)]
      exact (h3 j hj).1
  · rw [World.frozen?_setCells]; exact (h3 j hj).2
  · by_cases hin : k ≤ i ∧ i < k + vs.length
    · have := World.cell?_setCells_in b vs (off + k) w hcell (i - k) (by omega)
      rw [show off + k + (i - k) = off + i by omega] at this
      rw [List.append_assoc, List.getElem?_append_right (by simp; omega), List.length_take, Nat.min_eq_left (by omega), List.getElem?_append_left (by omega), List.getElem?_eq_getElem (by omega)] at hv
      cases hv
      exact this
    · rw [World.cell?_setCells_out b vs (off + k) w ⟨b, off + i, none⟩ (fun _ _ => by simp only; omega)]
      by_cases hik : i < k
      · rw [List.append_assoc, List.getElem?_append_left (by simp; omega), List.getElem?_take_of_lt hik] at hv
        exact h4 i v hv
      · rw [List.getElem?_append_right (by simp; omega), List.getElem?_drop] at hv
        refine h4 i v ?_
        rw [← hv]
        congr 1
        simp
        omega
theorem Own.wider {w : World} {size b off n cap : Nat} {cs : List Value} (h : Own w size (some ⟨b, off, none⟩) n cap cs) (hn : n + 1 ≤ cap) : ∃ junk : List Value, junk.length = size ∧ Own w size (some ⟨b, off, none⟩) (n + 1) cap (cs ++ junk) := by
  obtain ⟨_, h2, h3, h4⟩ := h.at_ _ rfl
  simp only at h2 h3 h4
  have hlen := h.len
  have hmul : (n + 1) * size ≤ cap * size := Nat.mul_le_mul_right _ hn
  have hadd : (n + 1) * size = n * size + size := by rw [Nat.add_mul, Nat.one_mul]
  refine ⟨(List.range size).map (fun j => (w.cell? ⟨b, off + (n * size + j), none⟩).getD undef), by simp, ⟨by simp; omega, hn, h.max, by simp, ?_⟩⟩
  rintro a ⟨⟩
  refine ⟨rfl, h2, h3, fun i v hv => ?_⟩
  by_cases hi : i < cs.length
  · rw [List.getElem?_append_left hi] at hv
    exact h4 i v hv
  · rw [List.getElem?_append_right (by omega), List.getElem?_map] at hv
    have hr : i - cs.length < size := by
      rcases Nat.lt_or_ge (i - cs.length) size with h | h
      · exact h
      · rw [List.getElem?_eq_none (by simpa using h)] at hv; cases hv
    rw [List.getElem?_range hr] at hv
    simp at hv
    obtain ⟨u, hu⟩ := Option.isSome_iff_exists.1 (h3 i (by omega)).1
    rw [show n * size + (i - cs.length) = i by omega, hu] at hv
    simp at hv
    subst hv
    exact hu
/-- The two copies of slices.Insert, in a list of cells that is one element longer. -/
theorem Own.inserted {w : World} {size b off n cap i : Nat} {cs vs junk : List Value} (h : Own w size (some ⟨b, off, none⟩) (n + 1) cap (cs ++ junk)) (hc : cs.length = n * size) (hi : i ≤ n) (hj : junk.length = size) (hv : vs.length = size) :
    Own ((w.setCells b (off + (i + 1) * size) (cs.drop (i * size))).setCells b (off + i * size) vs) size (some ⟨b, off, none⟩) (n + 1) cap (cs.take (i * size) ++ vs ++ cs.drop (i * size)) := by
  have hmul : i * size ≤ n * size := Nat.mul_le_mul_right _ hi
  have hadd : (i + 1) * size = i * size + size := by rw [Nat.add_mul, Nat.one_mul]
  have h1 := h.splice ((i + 1) * size) (cs.drop (i * size)) (by simp; omega)
  have h2 := h1.splice (i * size) vs (by simp; omega)
  have e : (((cs ++ junk).take ((i + 1) * size) ++ cs.drop (i * size) ++ (cs ++ junk).drop ((i + 1) * size + (cs.drop (i * size)).length)).take (i * size) ++ vs ++
      ((cs ++ junk).take ((i + 1) * size) ++ cs.drop (i * size) ++ (cs ++ junk).drop ((i + 1) * size + (cs.drop (i * size)).length)).drop (i * size + vs.length)) = cs.take (i * size) ++ vs ++ cs.drop (i * size) := by
    have d0 : (cs ++ junk).drop ((i + 1) * size + (cs.drop (i * size)).length) = [] := List.drop_of_length_le (by simp; omega)
    rw [d0, List.append_nil, hv, ← hadd, List.drop_append_of_le_length (by simp; omega), List.take_append_of_le_length (by simp; omega), List.take_take, Nat.min_eq_left (by omega), List.take_append_of_le_length (by omega)]
    rw [List.drop_take, Nat.sub_self, List.take_zero, List.nil_append]
  rw [e] at h2
  exact h2
/-- The two copies of slices.Insert, in new memory. -/
theorem Own.inserted2 {w : World} {size b off n cap i : Nat} {cs vs zs : List Value} (h : Own w size (some ⟨b, off, none⟩) (n + 1) cap (cs.take (i * size) ++ zs)) (hc : cs.length = n * size) (hi : i ≤ n) (hv : vs.length = size) :
    Own ((w.setCells b (off + i * size) vs).setCells b (off + (i + 1) * size) (cs.drop (i * size))) size (some ⟨b, off, none⟩) (n + 1) cap (cs.take (i * size) ++ vs ++ cs.drop (i * size)) := by
  have hmul : i * size ≤ n * size := Nat.mul_le_mul_right _ hi
  have hadd : (i + 1) * size = i * size + size := by rw [Nat.add_mul, Nat.one_mul]
  have hadd2 : (n + 1) * size = n * size + size := by rw [Nat.add_mul, Nat.one_mul]
  have hl := h.len
  simp at hl
  have hz : zs.length = n * size + size - i * size := by omega
  have h1 := h.splice (i * size) vs (by simp; omega)
  have h2 := h1.splice ((i + 1) * size) (cs.drop (i * size)) (by simp; omega)
  have hd : ((cs.take (i * size) ++ zs).take (i * size) ++ vs ++ (cs.take (i * size) ++ zs).drop (i * size + vs.length)).length = (n + 1) * size := by simp; omega
  have hp : ((cs.take (i * size) ++ zs).take (i * size) ++ vs) = cs.take (i * size) ++ vs := by
    rw [List.take_append_of_le_length (by simp; omega), List.take_take, Nat.min_self]
  rw [List.drop_of_length_le (l := (cs.take (i * size) ++ zs).take (i * size) ++ vs ++ (cs.take (i * size) ++ zs).drop (i * size + vs.length)) (by rw [hd]; simp; omega), List.append_nil, hp, List.take_append_of_le_length (by simp; omega), List.take_of_length_le (by simp; omega)] at h2
  exact h2
theorem wpList_append_at {P : Program} (w : World) {ops : Array Oper} {rest : List Oper} {o : Oper} {a : Act} {Q : Exit → Act → World → Prop} (hgd : o.guard = none) (s x : Operand) (t t' : TypeId)
    (ho : o.op = .call { callee := .builtin .append, args := #[s, x], argTypes := #[t, t'] }) (v u : Value) (hs : a.eval s = v) (hx : a.eval x = u) {v' : Value} {w' : World}
    (hr : (Builtin.append_ #[t, t'] o.type #[v, u]).run P w = .ok v' w') (h : wpList P ops Q rest (a.put o.dst v') w') : wpList P ops Q (o :: rest) a w := by
  refine wpList_plain hgd fun K hK => ?_
  unfold Oper.wp execOp
  simp only [ho, resolve, invoke, builtin, Sem.run_bind, Sem.run_pure, Result.andThen_ok, List.map_toArray, List.map_cons, List.map_nil, hs, hx, hr]
  exact hK _ _ h
/-- append of a made slice, where there is no room. -/
theorem run_append_zeros {P : Program} {w : World} {t tn e : TypeId} {z : Value} {size bytes : Nat} (ty : TypeId) (hE : ElemOf P t e z size bytes) (htn : P.underlying tn = some (.int .i64)) {b off n cap k : Nat} {cs : List Value} {K : Int} (hK : K = (k : Int)) (h : Own w size (some ⟨b, off, none⟩) n cap cs)
    (h0 : 0 < k) (hg : cap < n + k) (h63 : n + k ≤ 4611686018427387904) (hb : (n + k) * bytes ≤ 140737488355328) :
    ∃ G w' zs, (Builtin.append_ #[t, tn] ty #[.slice (some ⟨b, off, none⟩) n cap, .int .i64 K]).run P w = .ok (.slice (some ⟨w.heap.size, 0, none⟩) (n + k) G) w' ∧ n + k ≤ G ∧ G ≤ maxLen ∧ zs.length = k * size ∧ Own w' size (some ⟨w.heap.size, 0, none⟩) (n + k) G (cs ++ zs) ∧ Chg (fun _ => False) w w' := by
  subst hK
  obtain ⟨i, hi, hz, hsize, hby⟩ := hE.info
  have hzs := hE.zsize
  have hpos := hE.pos
  subst hsize; subst hby
  obtain ⟨_, h2, h3, h4⟩ := h.at_ _ rfl
  simp only at h2 h3 h4
  have hm : n + k ≤ maxLen := by unfold maxLen; omega
  have hold : (Builtin.firstCells i.size n (.slice (some ⟨b, off, none⟩) n cap)).run P w.drew = .ok cs.toArray w.drew :=
    run_firstCells_some w.drew i.size n ⟨b, off, none⟩ n cap cs h.len (fun j v hj => by rw [add_plain]; exact h4 j v hj)
  have hkb : k * i.bytes ≤ (n + k) * i.bytes := Nat.mul_le_mul_right _ (by omega)
  have hr := Lib.run_append_grow_zeros w t tn ty e i z .i64 .i64 hE.under htn hi hz (some ⟨b, off, none⟩) n cap cs hold k h0 hpos hg (by omega) (by omega) (growslice_fits hg hb)
  have hge := grownCap_ge w (n + k) cap e
  have hcm := grownCap_le_maxLen w (n + k) cap e hm
  refine ⟨_, _, (Builtin.zeroCells z.cells k).toList, hr, hge, hcm, by rw [Array.length_toList, size_zeroCells, hzs], ?_, (Chg.refl _ _).drew.alloc _⟩
  have hzl : (Builtin.zeroCells z.cells k).size = k * i.size := by rw [size_zeroCells, hzs]
  refine Own.alloc w.drew i.size (n + k) _ _ e _ (by rw [List.length_append, h.len, Array.length_toList, hzl, Nat.add_mul]) hge hcm ?_ ?_
  · simp only [Array.size_append, List.size_toArray, size_zeroCells, hzs, h.len, ← Nat.add_mul]
    rw [show n + k + (grownCap w (n + k) cap e - (n + k)) = grownCap w (n + k) cap e by omega]
    exact Nat.le_refl _
  · simp only [Array.toList_append]
    rw [show (n + k) * i.size = (cs ++ (Builtin.zeroCells z.cells k).toList).length by rw [List.length_append, h.len, Array.length_toList, hzl, Nat.add_mul]]
    exact List.take_left
theorem shape_of {w : World} {b o : Nat} {v : Value} (h : w.cell? ⟨b, o, none⟩ = some v) : ∃ t k, w.shape? b = some (t, k) ∧ k ≠ 0 := by
  unfold World.cell? at h
  unfold World.shape?
  split at h
  · rename_i c t f hq
    simp at hq
    rw [hq]
    simp at h
    refine ⟨t, c.size, rfl, ?_⟩
    intro h0
    rw [Array.getElem?_eq_none (by omega)] at h
    cases h
  · cases h
end Go.Proofs.YtackmgmaippajaaGreat
-- part InsN
namespace Go.Proofs.YtackmgmaippajaaGreat
set_option maxRecDepth 100000
open Go Go.RowKit

theorem el_i : ElemOf Tryz.prog 29 78 (.agg #[.string ⟨#[]⟩, .slice none 0 0, .int .u64 0, .int .u64 0]) 4 56 := .mk' Tryz.underlying29 (by kernel_rfl) rfl (by decide)
theorem over_false (vb b off la ca lb cb o : Nat) (u : Value) (w : World) (va : Array Value) (t : TypeId) (hva : w.heap[vb]? = some (.cells va t (0, 0))) (hu : w.cell? ⟨b, o, none⟩ = some u) (hne : vb ≠ b) :
    (callFunc 131 #[.slice (some ⟨vb, 0, none⟩) la ca, .slice (some ⟨b, off, none⟩) lb cb]).run Tryz.prog w = .ok (.value (.bool false)) w := by
  obtain ⟨tB, kB, hs, hk⟩ := shape_of hu
  have hz : ∀ w, (Go.sizeOf 78).run Tryz.prog w = .ok 4 w := fun w => by
    obtain ⟨i, hi, _, hsz, _⟩ := el_i.info
    simp [sizeOf, typeInfo, hi, hsz]
  rw [run_callFunc_extern Tryz.func131 (by kernel_rfl) (by kernel_rfl) (by kernel_rfl) (e := Extern.SlicesOverlaps.overlaps #[29, 29] #[4]) (by kernel_rfl),
    Lib.run_overlaps_apart w 29 4 78 Tryz.underlying29 4 hz ⟨vb, 0, none⟩ ⟨b, off, none⟩ la ca lb cb hne t tB va.size kB (by simp [World.shape?, hva]) hs hk (heap_frozen hva 0) (heap_frozen hva _)]
  rfl
theorem drew_setCells' (b : Nat) : ∀ (vs : List Value) (o : Nat) (w : World), (w.setCells b o vs).drew = w.drew.setCells b o vs
  | [], _, _ => rfl
  | v :: r, o, w => by rw [World.setCells, World.setCells, drew_setCells' b r]; rfl
theorem below_chg {w w' : World} (h : Below w.heap.size w w') (S : Nat → Prop) : Chg S w w' := Chg.of_below h S
def InsPost (lo : Option Addr) (n : Nat) (cs : List Value) (w w' : World) (xo : Option Addr) (xc : Nat) : Prop := Own w' 4 xo (n + 1) xc cs ∧ Chg (fun k => ∃ a, lo = some a ∧ a.block = k) w w' ∧ ∀ a, xo = some a → lo = some a ∨ w.heap.size ≤ a.block
set_option maxHeartbeats 2000000 in
set_option maxRecDepth 100000 in
theorem insert_any (lo : Option Addr) (n cap : Nat) (I : Int) (i : Nat) (cs vs : List Value) (vb : Nat) (va : Array Value) (t : TypeId) (w : World) (h : Own w 4 lo n cap cs) (hI : I = (i : Int)) (hi : i ≤ n) (hn : n ≤ 100000) (h1 : ∀ u ∈ cs, u.oneCell' = true)
    (hv : vs.length = 4) (hv1 : ∀ u ∈ vs, u.oneCell' = true) (hva : w.heap[vb]? = some (.cells va t (0, 0))) (hvs : va.toList = vs) (hvb : ∀ a, lo = some a → a.block ≠ vb) :
    Calls Tryz.prog 111 #[.slice lo n cap, .int .i64 I, .slice (some ⟨vb, 0, none⟩) 1 1] w fun e w' => ∃ xo xc, e = .returned (.slice xo (n + 1) xc) ∧ InsPost lo n (cs.take (i * 4) ++ vs ++ cs.drop (i * 4)) w w' xo xc := by
  subst hI
  have hrow : Row w (some ⟨vb, 0, none⟩) vs := fun _ => ⟨vb, 0, rfl, fun j v hj => by rw [heap_cell hva, Nat.zero_add]; rw [← hvs] at hj; simpa using hj⟩
  have hlen := h.len
  have hwn := IntWalk.i64_in ((n : Int) + 1) (by omega)
  have hwi := IntWalk.i64_in ((i : Int) + 1) (by omega)
  by_cases hin : i = n
  · subst hin
    have HO := Lib.hid (And.intro h (And.intro hrow (And.intro hv hv1)))
    have hle := h.le
    have htk : cs.take (i * 4) = cs := List.take_of_length_le (by omega)
    have hdr : cs.drop (i * 4) = [] := List.drop_of_length_le (by omega)
    rw [htk, hdr, List.append_nil]
    cases lo with
    | none =>
      have h0 := h.nil rfl
      obtain rfl : i = 0 := by omega
      subst h0
      clear h hrow hva hvs hvb hv hv1 hlen htk hdr h1
      go_enter Tryz.func111, Tryz.ntmps111
      go_wp2_with (at_builtin; refine wpList_append' rfl (.tmp 23) (.tmp 24) el_i rfl rfl rfl HO.out.1 (m := 1) (by rw [HO.out.2.2.1]) HO.out.2.1 HO.out.2.2.2 (by unfold maxLen; omega) (by omega) ?_; intro xo xc w2 hx hch _ hx2; have H2 := Lib.hid (show InsPost none 0 (cs ++ vs) w w2 xo xc from ⟨hx, hch, hx2⟩); clear hx hch hx2)
      go_ret
      exact ⟨xo, xc, rfl, H2.out⟩
    | some a =>
      obtain ⟨b, off, sp⟩ := a
      have hsp := (h.at_ _ rfl).1
      simp at hsp
      subst hsp
      clear h hrow hva hvs hvb hv hv1 hlen htk hdr h1
      go_enter Tryz.func111, Tryz.ntmps111
      go_wp2_with (at_builtin; refine wpList_append' rfl (.tmp 23) (.tmp 24) el_i rfl rfl rfl HO.out.1 (m := 1) (by rw [HO.out.2.2.1]) HO.out.2.1 HO.out.2.2.2 (by unfold maxLen; omega) (by omega) ?_; intro xo xc w2 hx hch _ hx2; have H2 := Lib.hid (show InsPost (some ⟨b, off, none⟩) i (cs ++ vs) w w2 xo xc from ⟨hx, hch, hx2⟩); clear hx hch hx2)
      all_goals (
        go_ret
        exact ⟨xo, xc, rfl, H2.out⟩)
  · have hin' : i < n := by omega
    have hle := h.le
    have hz2 : ((i : Int) == (n : Int)) = false := by simp; omega
    cases lo with
    | none => have := h.nil rfl; omega
    | some a =>
      obtain ⟨b, off, sp⟩ := a
      have hsp := (h.at_ _ rfl).1
      simp at hsp
      subst hsp
      have hbv : b ≠ vb := hvb _ rfl
      have hsz : (Tryz.prog.info? 78).map (·.size) = some 4 := by
        obtain ⟨q, hq, _, hqs, _⟩ := el_i.info
        rw [hq]; simp [hqs]
      have hmax : cap ≤ 9223372036854775807 := by have := h.max; unfold maxLen at this; omega
      have htn : ((n : Int) + 1).toNat = n + 1 := by omega
      have hti : ((i : Int) + 1).toNat = i + 1 := by omega
      have hb2 : ¬ (cap = i) := by omega
      by_cases hroom : n + 1 ≤ cap
      · have hrI : ¬ (cap : Int) < (n : Int) + 1 := by omega
        obtain ⟨junk, hj, hw⟩ := h.wider hroom
        have hxl : (i + 1) * 4 = i * 4 + 4 := by omega
        obtain ⟨_, hlt, hcap, hcs⟩ := h.at_ _ rfl
        simp only at hlt hcap hcs
        have hov : ∀ lb cb, (callFunc 131 #[.slice (some ⟨vb, 0, none⟩) 1 1, .slice (some ⟨b, off + (i + 1) * 4, none⟩) lb cb]).run Tryz.prog w = .ok (.value (.bool false)) w := fun lb cb => by
          obtain ⟨u, hu⟩ := Option.isSome_iff_exists.1 (hcap 0 (by omega)).1
          exact over_false vb b _ 1 1 lb cb _ u w va t hva hu (Ne.symm hbv)
        have hdl : (cs.drop (i * 4)).length = (n - i) * 4 := by rw [List.length_drop, hlen]; omega
        have hcp1 : ∀ ty dc sc, (Builtin.copy_ #[29, 29] ty #[.slice (some ⟨b, off + (i + 1) * 4, none⟩) (n - i) dc, .slice (some ⟨b, off + i * 4, none⟩) (n + 1 - i) sc]).run Tryz.prog w.drew = .ok (goInt ((n - i : Nat) : Int)) (w.drew.setCells b (off + (i + 1) * 4) (cs.drop (i * 4))) := fun ty dc sc => by
          have hmin : Nat.min (n + 1 - i) (n - i) = n - i := by simp only [Nat.min_def]; split <;> omega
          have := run_copy_any (P := Tryz.prog) w.drew 29 29 ty 78 4 b (off + (i + 1) * 4) (n - i) dc ⟨b, off + i * 4, none⟩ (n + 1 - i) sc (cs.drop (i * 4)) Tryz.underlying29 hsz (by rw [hmin, hdl])
            (fun j v hj => by rw [add_plain, Nat.add_assoc]; exact hcs _ v (by rwa [List.getElem?_drop] at hj))
            (fun j hj => by rw [Nat.add_assoc]; exact (hcap _ (by omega)).1) (fun j hj => by rw [Nat.add_assoc]; exact (hcap _ (by omega)).2) (fun v hv => h1 v (List.mem_of_mem_drop hv))
          rw [hmin] at this
          exact this
        obtain ⟨W1, hW1⟩ : ∃ W1, W1 = w.drew.setCells b (off + (i + 1) * 4) (cs.drop (i * 4)) := ⟨_, rfl⟩
        have hch1 : Chg (· = b) w W1 := by rw [hW1]; exact ((Chg.refl _ w).drew).trans (chg_setCells b _ _ _) (fun _ _ h => h)
        have hcp2 : ∀ ty dc, (Builtin.copy_ #[29, 29] ty #[.slice (some ⟨b, off + i * 4, none⟩) (n + 1 - i) dc, .slice (some ⟨vb, 0, none⟩) 1 1]).run Tryz.prog W1 = .ok (goInt ((1 : Nat) : Int)) (W1.setCells b (off + i * 4) vs) := fun ty dc => by
          have hmin : Nat.min 1 (n + 1 - i) = 1 := by simp only [Nat.min_def]; split <;> omega
          have hwo := (hw.drew.splice ((i + 1) * 4) (cs.drop (i * 4)) (by simp; omega))
          rw [← hW1] at hwo
          obtain ⟨_, _, hcap1, _⟩ := hwo.at_ _ rfl
          simp only at hcap1
          have := run_copy_any (P := Tryz.prog) W1 29 29 ty 78 4 b (off + i * 4) (n + 1 - i) dc ⟨vb, 0, none⟩ 1 1 vs Tryz.underlying29 hsz (by rw [hmin, hv])
            (fun j v hj => by
              rw [add_plain, Nat.zero_add, heap_cell (hch1.heap hva (Ne.symm hbv))]
              rw [← hvs] at hj; simpa using hj)
            (fun j hj => by rw [Nat.add_assoc]; exact (hcap1 _ (by omega)).1) (fun j hj => by rw [Nat.add_assoc]; exact (hcap1 _ (by omega)).2) hv1
          rw [hmin] at this
          exact this
        have hfin2 : Own (W1.setCells b (off + i * 4) vs) 4 (some ⟨b, off, none⟩) (n + 1) cap (cs.take (i * 4) ++ vs ++ cs.drop (i * 4)) := by
          have := hw.drew.inserted (i := i) hlen (by omega) hj hv
          rw [hW1]
          exact this
        have hch2 : Chg (· = b) w (W1.setCells b (off + i * 4) vs) := hch1.trans (chg_setCells b _ _ _) (fun _ _ h => h)
        have HF := Lib.hid (And.intro hfin2 hch2)
        rw [← hW1] at hcp1
        have HC := Lib.hid (And.intro hcp1 hcp2)
        have HV := Lib.hid hov
        clear hov hcp1 hcp2 hfin2 hch1 hch2 hcs hcap hw h hrow hva hvs hW1 hdl hlen h1 hv1 hxl
        have hb4 : ¬ (cap = i + 1) := by omega
        have hb1 : (0 : Int) ≤ (i : Int) + 1 := by omega
        have hb3 : (i : Int) ≤ (n : Int) + 1 := by omega
        have hb5 : (n : Int) + 1 ≤ (cap : Int) := by omega
        have hb6 : (i : Int) + 1 ≤ (n : Int) + 1 := by omega
        -- BEGIN1
        go_enter Tryz.func111, Tryz.ntmps111
        go_wp2_with (simp only [HV.out])
        go_region_law (refine step_copy_at rfl _ _ 29 29 rfl (.slice (some ⟨b, off + (i + 1) * 4, none⟩) (n - i) (cap - (i + 1))) (.slice (some ⟨b, off + i * 4, none⟩) (n + 1 - i) (cap - i)) (by simp [Act.eval, Act.put]) (by simp [Act.eval, Act.put]) (HC.out.1 3 (cap - (i + 1)) (cap - i)) ?_)
        go_wp2_with (simp only [HC.out.2])
        go_ret
        exact ⟨some ⟨b, off, none⟩, cap, rfl, HF.out.1, HF.out.2.to (fun k hk => ⟨_, rfl, hk.symm⟩), fun a ha => .inl ha⟩
        -- END1
      · have hrI : (cap : Int) < (n : Int) + 1 := by omega
        obtain rfl : n = cap := by omega
        have hik : i + (n + 1 - i) = n + 1 := by omega
        have hKI : (n : Int) + 1 - (i : Int) = ((n + 1 - i : Nat) : Int) := by omega
        have hwk := IntWalk.i64_in ((n : Int) + 1 - (i : Int)) (by omega)
        obtain ⟨_, hlt, hcap, hcs⟩ := h.at_ _ rfl
        simp only at hlt hcap hcs
        have hvw := heap_lt hva
        obtain ⟨G, w1, zs, hr, hG, hGm, hzl, hown, hch⟩ := run_append_zeros (w := w) 29 el_i Tryz.underlying3 hKI (h.cut (m := i) (c := n) (by omega) (by omega) (by omega)) (by omega) (by omega) (by omega) (by omega)
        rw [hik] at hr hG hown
        have hG63 : G ≤ 9223372036854775807 := by unfold maxLen at hGm; omega
        have hdl : (cs.drop (i * 4)).length = (n - i) * 4 := by rw [List.length_drop, hlen]; omega
        obtain ⟨_, _, hcapN, _⟩ := hown.at_ _ rfl
        simp only [Nat.zero_add] at hcapN
        have hcpA : ∀ ty dc, (Builtin.copy_ #[29, 29] ty #[.slice (some ⟨w.heap.size, i * 4, none⟩) (n + 1 - i) dc, .slice (some ⟨vb, 0, none⟩) 1 1]).run Tryz.prog w1 = .ok (goInt ((1 : Nat) : Int)) (w1.setCells w.heap.size (i * 4) vs) := fun ty dc => by
          have hmin : Nat.min 1 (n + 1 - i) = 1 := by simp only [Nat.min_def]; split <;> omega
          have := run_copy_any (P := Tryz.prog) w1 29 29 ty 78 4 w.heap.size (i * 4) (n + 1 - i) dc ⟨vb, 0, none⟩ 1 1 vs Tryz.underlying29 hsz (by rw [hmin, hv])
            (fun j v hj => by
              rw [add_plain, Nat.zero_add, heap_cell (hch.heap hva (fun h => h))]
              rw [← hvs] at hj; simpa using hj)
            (fun j hj => (hcapN _ (by omega)).1) (fun j hj => (hcapN _ (by omega)).2) hv1
          rw [hmin] at this
          exact this
        obtain ⟨W2, hW2⟩ : ∃ W2, W2 = w1.setCells w.heap.size (i * 4) vs := ⟨_, rfl⟩
        have hch2 : Chg (fun k => k = w.heap.size) w W2 := by rw [hW2]; exact hch.to (fun _ h => h.elim) |>.trans (chg_setCells w.heap.size vs _ w1) (fun _ _ h => h)
        have hown2 : Own W2 4 (some ⟨w.heap.size, 0, none⟩) (n + 1) G ((cs.take (i * 4) ++ zs).take (i * 4) ++ vs ++ (cs.take (i * 4) ++ zs).drop (i * 4 + vs.length)) := by
          have := hown.splice (i * 4) vs (by simp; omega)
          rw [Nat.zero_add] at this
          rw [hW2]; exact this
        obtain ⟨_, _, hcapM, _⟩ := hown2.at_ _ rfl
        simp only [Nat.zero_add] at hcapM
        have hcpB : ∀ ty dc sc, (Builtin.copy_ #[29, 29] ty #[.slice (some ⟨w.heap.size, (i + 1) * 4, none⟩) (n - i) dc, .slice (some ⟨b, off + i * 4, none⟩) (n - i) sc]).run Tryz.prog W2.drew = .ok (goInt ((n - i : Nat) : Int)) (W2.drew.setCells w.heap.size ((i + 1) * 4) (cs.drop (i * 4))) := fun ty dc sc => by
          have hmin : Nat.min (n - i) (n - i) = n - i := Nat.min_self _
          have := run_copy_any (P := Tryz.prog) W2.drew 29 29 ty 78 4 w.heap.size ((i + 1) * 4) (n - i) dc ⟨b, off + i * 4, none⟩ (n - i) sc (cs.drop (i * 4)) Tryz.underlying29 hsz (by rw [hmin, hdl])
            (fun j v hj => by
              rw [add_plain, Nat.add_assoc]
              exact hch2.cell (hcs _ v (by rwa [List.getElem?_drop] at hj)) (fun e => by simp only at e; omega))
            (fun j hj => (hcapM _ (by omega)).1) (fun j hj => (hcapM _ (by omega)).2) (fun v hv => h1 v (List.mem_of_mem_drop hv))
          rw [hmin] at this
          exact this
        have hfin : Own (W2.drew.setCells w.heap.size ((i + 1) * 4) (cs.drop (i * 4))) 4 (some ⟨w.heap.size, 0, none⟩) (n + 1) G (cs.take (i * 4) ++ vs ++ cs.drop (i * 4)) := by
          have := hown.inserted2 hlen (by omega) hv
          rw [Nat.zero_add, Nat.zero_add, ← hW2] at this
          have e : (W2.drew.setCells w.heap.size ((i + 1) * 4) (cs.drop (i * 4))) = (W2.setCells w.heap.size ((i + 1) * 4) (cs.drop (i * 4))).drew := (drew_setCells' _ _ _ _).symm
          rw [e]
          exact this.drew
        have hchF : Chg (fun k => k = w.heap.size) w (W2.drew.setCells w.heap.size ((i + 1) * 4) (cs.drop (i * 4))) := (hch2.drew).trans (chg_setCells _ _ _ _) (fun _ _ h => h)
        have HF := Lib.hid (And.intro hfin hchF)
        rw [← hW2] at hcpA
        have HC := Lib.hid (And.intro hr (And.intro hcpA hcpB))
        have hGi : ¬ (G = i) := by omega
        have hGi1 : ¬ (G = i + 1) := by omega
        have hb1 : (0 : Int) ≤ (i : Int) + 1 := by omega
        have hb6 : (i : Int) + 1 ≤ (n : Int) + 1 := by omega
        have hb3 : (i : Int) ≤ (n : Int) + 1 := by omega
        have hb7 : (i : Int) ≤ (n : Int) := by omega
        have hb8 : ¬ (n = i) := by omega
        clear hr hcpA hcpB hfin hchF hch2 hown2 hcapM hcapN hown hch hcs hcap h hrow hva hvs hW2 hdl hlen h1 hv1 hik hKI hzl
        -- BEGIN2
        go_enter Tryz.func111, Tryz.ntmps111
        go_wp2_with (first
          | (at_builtin; refine wpList_append_at _ rfl _ _ _ _ rfl _ _ rfl rfl HC.out.1 ?_)
          | (simp only [HC.out.2.1]))
        go_region_law (refine step_copy_at rfl _ _ 29 29 rfl (.slice (some ⟨w.heap.size, (i + 1) * 4, none⟩) (n - i) (G - (i + 1))) (.slice (some ⟨b, off + i * 4, none⟩) (n - i) (n - i)) (by simp [Act.eval, Act.put]) (by simp [Act.eval, Act.put]) (HC.out.2.2 3 (G - (i + 1)) (n - i)) ?_)
        go_wp2
        go_ret
        exact ⟨some ⟨w.heap.size, 0, none⟩, G, rfl, HF.out.1, below_chg (HF.out.2.below (Nat.le_refl _) (fun k hk => Nat.le_of_eq hk.symm)) _, fun a ha => .inr (by cases ha; exact Nat.le_refl _)⟩
        -- END2
end Go.Proofs.YtackmgmaippajaaGreat
