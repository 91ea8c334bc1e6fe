/-
  LAYER 7: Renew, Open, Expire.
-/
import Derived.Test.YtgcldmmhfleggaaLease
namespace Go.Proofs.Ytgcldmmhfleggaa
open Go Go.RowKit

def renewL : List Sess → Nat → Nat → List Sess × Int
  | [], _, _ => ([], 11)
  | e :: l, id, now => if e.id = id then (if e.ends ≤ now then (e :: l, 15) else (⟨e.id, max e.ends (endsOf now e.life), e.life⟩ :: l, 0)) else (e :: (renewL l id now).1, (renewL l id now).2)
theorem set_ends (l : List Sess) (i : Nat) (e : Sess) (x : Nat) (he : l[i]? = some e) : (l.flatMap Sess.cells).set (i * 3 + 1) (.int .u64 (x : Int)) = (l.set i ⟨e.id, x, e.life⟩).flatMap Sess.cells := by
  induction l generalizing i with
  | nil => simp at he
  | cons y l ih =>
    cases i with
    | zero => simp at he; subst he; simp [Sess.cells]
    | succ i =>
      rw [List.set_cons_succ, List.flatMap_cons, List.flatMap_cons, ← ih i (by simpa using he), show (i + 1) * 3 + 1 = i * 3 + 1 + 1 + 1 + 1 by omega]
      simp [Sess.cells]
theorem renewL_none {l : List Sess} {id now : Nat} (h : ∀ e ∈ l, e.id ≠ id) : renewL l id now = (l, 11) := by
  induction l with
  | nil => rfl
  | cons e l ih => rw [renewL, if_neg (h e (by simp)), ih (fun x hx => h x (by simp [hx]))]
theorem renewL_some {l : List Sess} {id now i : Nat} {e : Sess} (he : l[i]? = some e) (hid : e.id = id) (h : ∀ y ∈ l.take i, y.id ≠ id) :
    renewL l id now = if e.ends ≤ now then (l, 15) else (l.set i ⟨e.id, max e.ends (endsOf now e.life), e.life⟩, 0) := by
  induction l generalizing i with
  | nil => simp at he
  | cons x l ih =>
    cases i with
    | zero => simp at he; subst he; rw [renewL, if_pos hid]; rfl
    | succ i =>
      rw [List.take_succ_cons] at h
      rw [renewL, if_neg (h x (by simp)), ih (by simpa using he) (fun y hy => h y (by simp [hy]))]
      split <;> rfl
/-- What comes of a call on a thing with the blocks F. -/
def Wrote (w w' : World) (p last : Nat) (l : List Sess) (F : List Nat) : Prop := ∃ F', BookAt w' p last l F' ∧ Chg (· ∈ F) w w' ∧ ∀ k ∈ F', k ∈ F ∨ w.heap.size ≤ k
theorem Wrote.same {w w' : World} {p last : Nat} {l : List Sess} {F : List Nat} (h : BookAt w p last l F) (hb : Below w.heap.size w w') : Wrote w w' p last l F :=
  ⟨F, h.keep (Chg.of_below hb (fun _ => False)) (fun _ _ h => h), Chg.of_below hb _, fun _ h => .inl h⟩
theorem renew_end {w w1 : World} {p last b off n cap i x0 x1 x2 y : Nat} {l : List Sess} {F : List Nat} {v : Int} (he : l[i]? = some ⟨x0, x1, x2⟩) (h3 : p ∉ blk (some ⟨b, off, none⟩)) (hF : F = p :: blk (some ⟨b, off, none⟩)) (hn : l.length = n)
    (hb : Below w.heap.size w w1) (hp : w1.heap[p]? = some (.cells #[.int .u64 (last : Int), .slice (some ⟨b, off, none⟩) n cap] 62 (0, 0))) (ho : Own w1 3 (some ⟨b, off, none⟩) n cap (l.flatMap Sess.cells)) (hpb : p ≠ b) (hv : v = (y : Int)) :
    Wrote w (w1.setCell ⟨b, off + i * 3 + 1, none⟩ (.int .u64 v)) p last (l.set i ⟨x0, y, x2⟩) F := by
  subst hv
  have hset := ho.set (i * 3 + 1) (.int .u64 (y : Int)) (by rw [← hn]; have := (List.getElem?_eq_some_iff.1 he).1; omega)
  rw [set_ends l i _ _ he, ← Nat.add_assoc] at hset
  have hch : Chg (· = b) w1 (w1.setCell ⟨b, off + i * 3 + 1, none⟩ (.int .u64 (y : Int))) := Chg.one w1 b _ _
  refine ⟨F, ⟨_, n, cap, hch.heap hp hpb, hset, h3, hF⟩, (Chg.of_below hb (· ∈ F)).trans hch (fun k _ h => ?_), fun _ h => .inl h⟩
  rw [hF, h]
  exact List.mem_cons_of_mem _ (mem_blk.2 ⟨_, rfl, rfl⟩)
set_option maxHeartbeats 1000000 in
set_option maxRecDepth 100000 in
theorem renew_any (p last id now : Nat) (l : List Sess) (F : List Nat) (w : World) (h : BookAt w p last l F) (hl : l.length ≤ 1000000) (hnow : now < 18446744073709551616) (hlf : ∀ e ∈ l, e.life < 18446744073709551616) :
    Calls Try.prog 13 #[.pointer (some ⟨p, 0, none⟩), .int .u64 (id : Int), .int .u64 (now : Int)] w fun e w' => e = .returned (.int .i64 (renewL l id now).2) ∧ Wrote w w' p last (renewL l id now).1 F := by
  rcases who l id with hno | ⟨i, e, he, hid, hno⟩
  · have HF := Lib.hid (find_none p last id l F w h hl hno)
    have HL := Lib.hid (And.intro (renewL_none (now := now) hno) h)
    clear h hno
    go_enter Try.func13, Try.ntmps13
    go_wp2_with (go_at_call 26; (with_reducible refine HF.out.mono ?_); rintro r w1 ⟨rfl, hb⟩; have H1 := Lib.hid hb; clear hb)
    go_ret
    rw [HL.out.1]
    exact ⟨rfl, Wrote.same HL.out.2 H1.out⟩
  · have HF := Lib.hid (find_some p last id i e l F w h hl he hid hno)
    have hrl := renewL_some (now := now) he hid hno
    have HB := Lib.hid h
    have hlife := hlf e (List.mem_of_getElem? he)
    obtain ⟨lo, n, cap, h1, h2, h3, hF⟩ := h
    have hn := fl_own_len el_e h2
    have hi : (i : Int) < (n : Int) := by have := (List.getElem?_eq_some_iff.1 he).1; omega
    obtain ⟨b, off, rfl, _⟩ := el_at h2 he
    have HX := Lib.hid (And.intro h1 (And.intro h2 (And.intro he (And.intro h3 (And.intro hF hn)))))
    obtain ⟨x0, x1, x2⟩ := e
    dsimp only at hlife hid hrl
    clear h1 h2 h3 hF he hid hno hlf
    by_cases hexp : x1 ≤ now
    · rw [if_pos hexp] at hrl
      have HL := Lib.hid hrl
      clear hrl
      go_enter Try.func13, Try.ntmps13
      go_wp2_with (go_at_call 26; (with_reducible refine HF.out.mono ?_); rintro r w1 ⟨rfl, hb⟩; have hC := Chg.of_below hb (fun _ => False); obtain ⟨z0, z1, z2⟩ := cells2 (hC.heap HX.out.1 (fun h => h)); obtain ⟨b', off', hlo, hcs⟩ := el_at (HX.out.2.1.keep hC (fun _ _ h => h)) HX.out.2.2.1; cases hlo; obtain ⟨c0, c1, c2, _⟩ := hcs _ _ _ rfl; have H1 := Lib.hid hb; clear hb hC hcs)
      go_ret
      rw [HL.out]
      exact ⟨rfl, Wrote.same HB.out H1.out⟩
    · rw [if_neg hexp] at hrl
      have HL := Lib.hid hrl
      clear hrl
      go_enter Try.func13, Try.ntmps13
      go_wp2_with (go_at_call 26; (with_reducible refine HF.out.mono ?_); rintro r w1 ⟨rfl, hb⟩; have hC := Chg.of_below hb (fun _ => False); have hp1 := hC.heap HX.out.1 (fun h => h); have ho1 := HX.out.2.1.keep hC (fun _ _ h => h); obtain ⟨z0, z1, z2⟩ := cells2 hp1; obtain ⟨b', off', hlo, hcs⟩ := el_at ho1 HX.out.2.2.1; cases hlo; obtain ⟨c0, c1, c2, f0, f1, f2⟩ := hcs _ _ _ rfl; have H1 := Lib.hid (And.intro hb (And.intro hp1 ho1)); clear hb hC hcs hp1 ho1)
      have HE := Lib.hid (fun w => ends_any now x2 w hnow hlife)
      go_upto_region 8 with fail
      have d0 : w1.drew.cell? ⟨p, 1, none⟩ = some (.slice (some ⟨b, off, none⟩) n cap) := z1
      have d1 : w1.drew.cell? ⟨b, off + i * 3 + 1, none⟩ = some (.int .u64 (x1 : Int)) := c1
      have d2 : w1.drew.cell? ⟨b, off + i * 3 + 2, none⟩ = some (.int .u64 (x2 : Int)) := c2
      have d3 : w1.drew.frozen? ⟨b, off + i * 3 + 1, none⟩ = false := f1
      have hi0 : 0 ≤ (i : Int) := by omega
      have hpb : p ≠ b := fun e => HX.out.2.2.2.1 (mem_blk.2 ⟨_, rfl, e.symm⟩)
      go_still_tail 26, (by kernel_rfl)
      still_call ((HE.out w1.drew).mono (fun _ _ h => ⟨h.1, h.2.symm⟩))
      repeat still_step
      refine wpStill_nil ?_
      have HD := Lib.hid (And.intro H1.out.1.drew (And.intro (show w1.drew.heap[p]? = _ from H1.out.2.1) H1.out.2.2.drew))
      change wpList _ _ _ _ _ w1.drew
      generalize w1.drew = w2 at *
      go_wp2
      all_goals (
        go_ret
        rw [HL.out]
        refine ⟨rfl, ?_⟩
        exact renew_end HX.out.2.2.1 HX.out.2.2.2.1 HX.out.2.2.2.2.1 HX.out.2.2.2.2.2 HD.out.1 HD.out.2.1 HD.out.2.2 hpb (by omega))
end Go.Proofs.Ytgcldmmhfleggaa
