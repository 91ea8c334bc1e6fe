/-
  A drawn region whose last operation waits for all the others: that one is set aside, and S is asked of the others alone.
-/
import Derived.Test.YtebhbfjnobcckaaMem
import Derived.Deep.RegionHeld3
namespace Go.Proofs.Ytebhbfjnobcckaa
open Go Go.RowKit

theorem oper_monoQ {P : Program} {o : Oper} {a : Act} {w : World} {K : Act → World → Prop} {Q Q' : Exit → Act → World → Prop} (h : ∀ e a w, e ≠ .normal → Q' e a w → Q e a w) (hh : o.wp P a w K Q') : o.wp P a w K Q := by
  have hL : LetsOut Q' → LetsOut Q := fun ⟨a, w, hq⟩ => ⟨a, w, h _ _ _ (by simp) hq⟩
  unfold Oper.wp at *
  generalize (execOp a.eval o).run P w = r at *
  cases r with
  | ok n w' =>
    cases n <;> simp only [Oper.upon] at hh ⊢ <;>
      first
        | exact hh
        | exact Calls.mono hh (fun e w'' he => by cases e <;> first | exact he | exact h _ _ _ (by simp) he | exact hL he)
  | halt x w' => cases x <;> simp only [Oper.upon] at hh ⊢ <;> first | exact hh | exact h _ _ _ (by simp) hh
theorem wpOp_monoQ {P : Program} {ops : Array Oper} {i : Nat} {a : Act} {w : World} {K : Act → World → Prop} {Q Q' : Exit → Act → World → Prop} (h : ∀ e a w, e ≠ .normal → Q' e a w → Q e a w) (hh : wpOp P ops Q' i K a w) : wpOp P ops Q i K a w := by
  unfold wpOp at *
  split
  · simpa [*] using hh
  · rename_i o ho
    simp only [ho] at hh
    split
    · rename_i hw
      simp only [hw, if_true] at hh
      rcases hh with hh | ⟨h1, a2, w2, h2⟩
      · exact .inl (oper_monoQ h hh)
      · exact .inr ⟨h1, a2, w2, h _ _ _ (by simp) h2⟩
    · rename_i hw
      simp only [hw] at hh
      exact hh
/-- The post of a region whose operation m is set aside. -/
def LastQ (P : Program) (ops : Array Oper) (m : Nat) (Q : Exit → Act → World → Prop) : Exit → Act → World → Prop := fun e a w => match e with
  | .normal => wpOp P ops Q m (fun a' w' => Q .normal a' w') a w
  | e => Q e a w
theorem LastQ.imp {P : Program} {ops : Array Oper} {m : Nat} {Q : Exit → Act → World → Prop} (e : Exit) (a : Act) (w : World) (he : e ≠ .normal) (h : LastQ P ops m Q e a w) : Q e a w := by
  cases e <;> first | exact h | exact absurd rfl he
theorem getD_up {l : Array Bool} {j : Nat} (h : l.getD j false = true) : l.getD j true = true := by
  simp only [Array.getD_eq_getD_getElem?] at *
  cases hj : l[j]? with
  | none => rw [hj] at h; cases h
  | some b => rw [hj] at h; exact h
theorem getD_in {l : Array Bool} {j : Nat} (hj : j < l.size) (h : l.getD j false = false) : l.getD j true = false := by
  simp only [Array.getD_eq_getD_getElem?] at *
  rw [Array.getElem?_eq_getElem hj] at *
  exact h
section
variable {P : Program} {ops : Array Oper} {Q : Exit → Act → World → Prop} {S : World → Prop} {md : Region.Mode} {m : Nat} {om : Oper}
theorem ready_some (hlt : ∀ (i : Nat) (o : Oper), ops[i]? = some o → ∀ e ∈ o.after, e.on < i) (listed : Array Bool) (hs : listed.size = ops.size) : ∀ (i : Nat), i < ops.size → listed.getD i true = false → ∃ j, j ∈ Region.ready md ops listed := by
  intro i
  induction i using Nat.strongRecOn with
  | ind i ih =>
    intro hi h
    by_cases hall : ∀ e ∈ (ops[i]).after, Region.binds md e = true → listed.getD e.on false = true
    · exact ⟨i, mem_ready.2 ⟨h, ops[i], Array.getElem?_eq_getElem hi, hall⟩⟩
    · simp only [Classical.not_forall] at hall
      obtain ⟨e, he, hb, hf⟩ := hall
      have h1 := hlt i _ (Array.getElem?_eq_getElem hi) e he
      exact ih e.on h1 (by omega) (getD_in (by omega) (by simpa using hf))
theorem ready_done (hm : ops[m]? = some om) (hw : ∀ j, j < ops.size → j ≠ m → ∃ e ∈ om.after, Region.binds md e = true ∧ (e.on = j ∨ ∃ o2, ops[e.on]? = some o2 ∧ ∃ e2 ∈ o2.after, Region.binds md e2 = true ∧ e2.on = j)) {listed : Array Bool} (hs : listed.size = ops.size) (hc : ∀ (i : Nat) (o : Oper), ops[i]? = some o → listed.getD i false = true → ∀ e ∈ o.after, Region.binds md e = true → listed.getD e.on false = true) (h : m ∈ Region.ready md ops listed) : Region.ready md ops (listed.setIfInBounds m true) = [] := by
  obtain ⟨_, o, ho, hall⟩ := mem_ready.1 h
  rw [hm] at ho
  cases ho
  refine List.eq_nil_iff_forall_not_mem.2 fun j hj => ?_
  obtain ⟨hj1, o, ho, _⟩ := mem_ready.1 hj
  have hjs := (Array.getElem?_eq_some_iff.1 ho).1
  by_cases hjm : j = m
  · subst hjm
    simp [Array.getD_eq_getD_getElem?, hs, hjs] at hj1
  · rw [getD_set_ne true (Ne.symm hjm)] at hj1
    obtain ⟨e, he, hb, hor⟩ := hw j hjs hjm
    have h1 := hall e he hb
    rcases hor with rfl | ⟨o2, ho2, e2, he2, hb2, rfl⟩
    · rw [getD_up h1] at hj1
      cases hj1
    · rw [getD_up (hc _ _ ho2 h1 e2 he2 hb2)] at hj1
      cases hj1
theorem wpAny_last (hm : ops[m]? = some om) (hw : ∀ j, j < ops.size → j ≠ m → ∃ e ∈ om.after, Region.binds md e = true ∧ (e.on = j ∨ ∃ o2, ops[e.on]? = some o2 ∧ ∃ e2 ∈ o2.after, Region.binds md e2 = true ∧ e2.on = j)) (hlt : ∀ (i : Nat) (o : Oper), ops[i]? = some o → ∀ e ∈ o.after, e.on < i) :
    ∀ (fuel : Nat) (listed : Array Bool) (a : Act) (w : World), listed.size = ops.size → listed.getD m true = false → (∀ (i : Nat) (o : Oper), ops[i]? = some o → listed.getD i false = true → ∀ e ∈ o.after, Region.binds md e = true → listed.getD e.on false = true) →
      wpAnyH P md ops (LastQ P ops m Q) S fuel (listed.setIfInBounds m true) a w → wpAny P md ops Q (fuel + 1) listed a w := by
  have hms := (Array.getElem?_eq_some_iff.1 hm).1
  have hne : ∀ listed : Array Bool, listed.size = ops.size → listed.getD m true = false → Region.ready md ops listed ≠ [] := fun listed hs h h0 => by
    obtain ⟨j, hj⟩ := ready_some (md := md) hlt listed hs m hms h
    rw [h0] at hj
    cases hj
  intro fuel
  induction fuel with
  | zero =>
    intro listed a w hs hmf hc h
    obtain ⟨h1, h2⟩ := h
    refine ⟨fun h0 => absurd h0 (hne listed hs hmf), fun i hi => ?_⟩
    by_cases him : i = m
    · subst him
      exact wpOp_mono (fun a w hq => ⟨h1, hq⟩) h2
    · have := ready_mono (i := m) hi him
      rw [h1] at this
      cases this
  | succ fuel ih =>
    intro listed a w hs hmf hc h
    obtain ⟨h1, h2⟩ := h
    refine ⟨fun h0 => absurd h0 (hne listed hs hmf), fun i hi => ?_⟩
    by_cases him : i = m
    · subst him
      have hd := ready_done hm hw hs hc hi
      exact wpOp_mono (fun a w hq => wpAny_done hd hq _) (h1 hd)
    · have h3 := wpOp_monoQ LastQ.imp (h2 i (ready_mono hi him))
      refine wpOp_mono (fun a w h4 => ih (listed.setIfInBounds i true) a w (by simp [hs]) (by rw [getD_set_ne true him]; exact hmf) (fun k o ho hk e he hb => ?_) ?_) h3
      · by_cases hki : i = k
        · subst hki
          obtain ⟨_, o', ho', hall⟩ := mem_ready.1 hi
          rw [ho] at ho'
          cases ho'
          exact getD_set_true (hall e he hb)
        · rw [getD_set_ne false hki] at hk
          exact getD_set_true (hc k o ho hk e he hb)
      · rw [Array.setIfInBounds_comm _ _ him]
        exact h4.2
/-- Operation m waits for all others, and each waits for earlier ones alone. -/
def lastOk (md : Region.Mode) (ops : Array Oper) (m : Nat) : Bool :=
  (List.range ops.size).all (fun j => j == m || ((ops[m]?).map (·.after.any fun e => Region.binds md e && (e.on == j || ((ops[e.on]?).map (·.after.any fun e2 => Region.binds md e2 && e2.on == j)).getD false))).getD false) &&
  (List.range ops.size).all (fun i => ((ops[i]?).map (·.after.all fun e => decide (e.on < i))).getD true)
/-- **A drawn region whose operation m comes last.** -/
theorem wp_region_last {id n : Nat} {a : Act} {w : World} (hmix : P.follows .mixedOrders = true) (hn : ops.size = n + 1) (hm : ops[m]? = some om) (hok : lastOk .any ops m = true) (hS : S w.drew)
    (h : S w.drew → wpAnyH P .any ops (LastQ P ops m Q) S n ((Array.replicate ops.size false).setIfInBounds m true) a w.drew) : (Code.region id ops true).wp P Q a w := by
  refine wp_region_any hmix ?_
  rw [hn]
  simp only [lastOk, Bool.and_eq_true, List.all_eq_true, List.mem_range] at hok
  have h' := h hS
  rw [hn] at h'
  have hms := (Array.getElem?_eq_some_iff.1 hm).1
  refine wpAny_last (S := S) hm (fun j hj hjm => ?_) (fun i o ho e he => ?_) n _ a w.drew (by simp [hn]) (by simp [Array.getD_eq_getD_getElem?, ← hn, hms]) (fun i o ho hi => by rw [Array.getD_eq_getD_getElem?, Array.getElem?_eq_getElem (by simp; have := (Array.getElem?_eq_some_iff.1 ho).1; omega)] at hi; simp at hi) h'
  · have := hok.1 j hj
    simp [hm, hjm] at this
    obtain ⟨i, hi, h1, h2⟩ := this
    refine ⟨om.after[i], Array.getElem_mem hi, h1, ?_⟩
    rcases h2 with h2 | h2
    · exact .inl h2
    · cases ho2 : ops[om.after[i].on]? with
      | none => rw [ho2] at h2; simp at h2
      | some o2 =>
        rw [ho2] at h2
        simp at h2
        obtain ⟨i2, hi2, h3, h4⟩ := h2
        exact .inr ⟨o2, rfl, o2.after[i2], Array.getElem_mem hi2, h3, h4⟩
  · have := hok.2 i (Array.getElem?_eq_some_iff.1 ho).1
    simp [ho] at this
    obtain ⟨i1, hi1, rfl⟩ := Array.mem_iff_getElem.1 he
    exact this i1 hi1
/-- The operation that was set aside. -/
theorem last_do {o : Oper} {a : Act} {w : World} (ho : ops[m]? = some o)
    (h : ∀ K' : Act → World → Prop, Shut (∀ a w, Q .normal a w → K' a w) → if Region.wanted o (yielded ops a.tmps) = true then Oper.wp P o a w K' Q else K' (a.put o.dst undef) w) : LastQ P ops m Q .normal a w :=
  wpOp_step ho (fun K' hK => h K' hK)
end
end Go.Proofs.Ytebhbfjnobcckaa
