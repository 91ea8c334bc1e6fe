/-
  slices.BinarySearchFunc of nodes, by a string.
-/
import Derived.Test.YtebhbfjnobcckaaProg
import Derived.Test.YtebhbfjnobcckaaNd
namespace Go.Proofs.Ytebhbfjnobcckaa
open Go Go.RowKit

/-- How elements stand to a target. -/
structure CmpBy (P : Program) (f : Nat) (tv : Value) (ck : Nd → Int) (es : List Nd) : Prop where
  fn : ∀ args w, (callFunc f args).run P w = .ok (.enter f args) w
  by' : ∀ e w, e ∈ es → Calls P f #[e.val, tv] w fun r w' => r = .returned (.int .i64 (ck e)) ∧ Below w.heap.size w w'
def Lo (ck : Nd → Int) (es : List Nd) (i : Nat) : Prop := ∀ (k : Nat) (x : Nd), k < i → es[k]? = some x → ck x < 0
def Hi (ck : Nd → Int) (es : List Nd) (i : Nat) : Prop := ∀ (k : Nat) (x : Nd), i ≤ k → es[k]? = some x → 0 ≤ ck x
theorem row_at' {w : World} {lo : Option Addr} {es : List Nd} {k : Nat} {e : Nd} (h : Row w lo (es.flatMap Nd.cells)) (he : es[k]? = some e) :
    ∃ b off, lo = some ⟨b, off, none⟩ ∧ ∀ j v, e.cells[j]? = some v → w.cell? ⟨b, off + (k * 4 + j), none⟩ = some v := by
  have h0 := fl_get el_e he (show 0 < 4 by omega)
  obtain ⟨b, off, rfl, hc⟩ := h (by
    intro e0
    rw [e0] at h0
    have := el_e.len e
    rw [List.getElem?_eq_getElem (l := e.cells) (by omega)] at h0
    cases h0)
  refine ⟨b, off, rfl, fun j v hj => hc _ _ ?_⟩
  have hjs : j < 4 := by
    have := (List.getElem?_eq_some_iff.1 hj).1
    rwa [el_e.len] at this
  rw [fl_get el_e he hjs, hj]
set_option maxHeartbeats 2000000 in
set_option maxRecDepth 100000 in
theorem bs_any {f : Nat} {ck : Nd → Int} (tg : ByteArray) (lo : Option Addr) (n cap : Nat) (es : List Nd) (w : World) (hr : Row w lo (es.flatMap Nd.cells)) (hn : es.length = n) (hm : n ≤ 1000000) (h : CmpBy Try.prog f (.string tg) ck es)
    (mono : ∀ (i j : Nat) (x y : Nd), i ≤ j → es[i]? = some x → es[j]? = some y → 0 ≤ ck x → 0 ≤ ck y) :
    Calls Try.prog 39 #[.slice lo n cap, .string tg, .func (.func f) #[] #[]] w fun e w' => ∃ (i : Nat) (fd : Bool), e = .returned (.tuple #[.int .i64 (i : Int), .bool fd]) ∧ Below w.heap.size w w' ∧ i ≤ n ∧ Lo ck es i ∧ Hi ck es i ∧ (fd = true ↔ ∃ x, es[i]? = some x ∧ ck x = 0) := by
  have hfn := h.fn
  have HH := Lib.hid (And.intro hr (And.intro hn (And.intro h.by' mono)))
  clear hr hn h mono
  go_enter Try.func39, Try.ntmps39
  go_wp2
  go_loopg [9, 10] n (fun g vi vj wr => ∃ i j : Nat, g + i = j ∧ vi = .int .i64 i ∧ vj = .int .i64 j ∧ j ≤ n ∧ Lo ck es i ∧ Hi ck es j ∧ Below w.heap.size w wr)
  case atStart => exact ⟨0, n, rfl, rfl, rfl, Nat.le_refl _, fun _ _ h => by omega, fun k x hk hx => by have := (List.getElem?_eq_some_iff.1 hx).1; have := HH.out.2.1; omega, Below.refl _ _⟩
  case round =>
    obtain ⟨i, j, hg, rfl, rfl, hjn, hlo, hhi, hb⟩ := hrel
    have HR := Lib.hid (And.intro hlo (And.intro hhi hb))
    by_cases hij : i < j
    · have hadd := IntWalk.i64_in ((i : Int) + (j : Int)) (by omega)
      obtain ⟨m, hm2, hmi, hmj⟩ : ∃ m : Nat, ((i : Int) + (j : Int)) / 2 = (m : Int) ∧ i ≤ m ∧ m < j := ⟨(i + j) / 2, by omega, by omega, by omega⟩
      have hm1 := IntWalk.i64_in ((m : Int) + 1) (by omega)
      have hmn : (m : Int) < (n : Int) := by omega
      have hm0 : (0 : Int) ≤ (m : Int) := by omega
      obtain ⟨e, he⟩ : ∃ e, es[m]? = some e := ⟨_, List.getElem?_eq_getElem (by rw [HH.out.2.1]; omega)⟩
      obtain ⟨b, off, rfl, hcs⟩ := row_at' (HH.out.1.below hb) he
      have HE := Lib.hid (And.intro he (HH.out.2.2.1 e wr (List.mem_of_getElem? he)))
      obtain ⟨xk, xb, xv, xw, xo, xc⟩ := e
      have q0 := hcs 0 _ rfl
      have q1 := hcs 1 _ rfl
      have q2 := hcs 2 _ rfl
      have q3 := hcs 3 _ rfl
      simp only [Nat.add_zero, ← Nat.add_assoc] at q0 q1 q2 q3
      clear hcs he hlo hhi hb
      have hcall : Calls Try.prog f #[.agg #[.string xk, .slice xo xb.length xc, .int .u64 (xv : Int), .int .u64 (xw : Int)], .string tg] wr (fun r w' => r = .returned (.int .i64 (ck ⟨xk, xb, xv, xw, xo, xc⟩)) ∧ Below wr.heap.size wr w') := HE.out.2
      generalize hck : ck ⟨xk, xb, xv, xw, xo, xc⟩ = c at *
      have HE := Lib.hid (And.intro HE.out.1 (And.intro hck hcall))
      clear hck hcall
      have hcc : c < 0 ∨ 0 ≤ c := by omega
      rcases hcc with hc | hc
      · as_aux_lemma =>
          go_wp2_with ((with_reducible refine HE.out.2.2.mono ?_); rintro r w1 ⟨rfl, hb1⟩; have H1 := Lib.hid hb1; clear hb1)
          go_roundg (j - (m + 1))
          case measure => omega
          case rel => exact ⟨m + 1, j, by omega, by go_num, rfl, hjn, fun k x hk hx => by
              by_cases h0 : 0 ≤ ck x
              · have := HH.out.2.2.2 k m x _ (by omega) hx HE.out.1 h0
                rw [HE.out.2.1] at this; omega
              · omega, HR.out.2.1, HR.out.2.2.trans (H1.out.mono HR.out.2.2.size)⟩
      · as_aux_lemma =>
          have hc' : decide (c < 0) = false := decide_eq_false (by omega)
          go_wp2_with ((with_reducible refine HE.out.2.2.mono ?_); rintro r w1 ⟨rfl, hb1⟩; have H1 := Lib.hid hb1; clear hb1)
          go_roundg (m - i)
          case measure => omega
          case rel => exact ⟨i, m, by omega, rfl, rfl, by omega, HR.out.1, fun k x hk hx => HH.out.2.2.2 m k _ x hk HE.out.1 hx (by rw [HE.out.2.1]; exact hc), HR.out.2.2.trans (H1.out.mono HR.out.2.2.size)⟩
    · obtain rfl : i = j := by omega
      have HB := Lib.hid hb
      by_cases hin : i < n
      · have hinI : (i : Int) < (n : Int) := by omega
        have hi0 : (0 : Int) ≤ (i : Int) := by omega
        obtain ⟨e, he⟩ : ∃ e, es[i]? = some e := ⟨_, List.getElem?_eq_getElem (by rw [HH.out.2.1]; omega)⟩
        obtain ⟨b, off, rfl, hcs⟩ := row_at' (HH.out.1.below hb) he
        have HE := Lib.hid (And.intro he (HH.out.2.2.1 e wr (List.mem_of_getElem? he)))
        obtain ⟨xk, xb, xv, xw, xo, xc⟩ := e
        have q0 := hcs 0 _ rfl
        have q1 := hcs 1 _ rfl
        have q2 := hcs 2 _ rfl
        have q3 := hcs 3 _ rfl
        simp only [Nat.add_zero, ← Nat.add_assoc] at q0 q1 q2 q3
        clear hcs he hlo hhi hb
        have hcall : Calls Try.prog f #[.agg #[.string xk, .slice xo xb.length xc, .int .u64 (xv : Int), .int .u64 (xw : Int)], .string tg] wr (fun r w' => r = .returned (.int .i64 (ck ⟨xk, xb, xv, xw, xo, xc⟩)) ∧ Below wr.heap.size wr w') := HE.out.2
        generalize hck : ck ⟨xk, xb, xv, xw, xo, xc⟩ = c at *
        have HE := Lib.hid (And.intro HE.out.1 (And.intro hck hcall))
        clear hck hcall
        as_aux_lemma =>
          go_wp2_with ((with_reducible refine HE.out.2.2.mono ?_); rintro r w1 ⟨rfl, hb1⟩; have H1 := Lib.hid hb1; clear hb1)
          go_ret2
          refine ⟨i, _, rfl, HB.out.trans (H1.out.mono HB.out.size), hjn, HR.out.1, HR.out.2.1, ?_⟩
          rw [beq_iff_eq]
          constructor
          · rintro rfl; exact ⟨_, HE.out.1, HE.out.2.1⟩
          · rintro ⟨x, hx, hx0⟩
            have := HE.out.1.symm.trans hx
            cases this
            rw [← HE.out.2.1]; exact hx0
      · have hinI : decide ((i : Int) < (n : Int)) = false := decide_eq_false (by omega)
        have hinJ : ¬ (i : Int) < (n : Int) := by omega
        clear hlo hhi hb
        as_aux_lemma =>
          go_wp2
          go_ret2
          refine ⟨i, .inl ⟨rfl, HB.out, hjn, HR.out.1, HR.out.2.1, fun x hx _ => ?_⟩⟩
          have := (List.getElem?_eq_some_iff.1 hx).1
          have := HH.out.2.1
          omega
end Go.Proofs.Ytebhbfjnobcckaa
