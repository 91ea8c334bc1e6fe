/-
  LAYER 6: a law's own tree; Awake.
-/
import Derived.Test.YtebhbfjnobcckaaTreeD
namespace Go.Proofs.Ytebhbfjnobcckaa
open Go Go.RowKit

theorem new_any (w : World) : Calls Try.prog 11 #[] w fun e w' => e = .returned (.pointer (some ⟨w.heap.size, 0, none⟩)) ∧ Below w.heap.size w w' ∧ TreeAt w' w.heap.size [] [w.heap.size] := by
  go_enter Try.func11, Try.ntmps11
  go_wp2
  go_ret
  exact ⟨rfl, (Below.refl _ w).alloc (Nat.le_refl _) _, none, 0, 0, [], rfl, heap_top w _, Own.nil' _ _, by simp [blk], by simp, by simp, by simp [blk], by simp [size_alloc]⟩
/-- A tree that was made behind w0. -/
structure TreeIn (w0 w : World) (p : Nat) (ps : List Pl) (F : List Nat) : Prop where
  tree : TreeAt w p ps F
  new : ∀ k ∈ F, w0.heap.size ≤ k
  below : Below w0.heap.size w0 w
  fine : Fine ps
theorem TreeIn.keep {w0 w w' : World} {p : Nat} {ps : List Pl} {F : List Nat} (h : TreeIn w0 w p ps F) {S : Nat → Prop} (hc : Chg S w w') (hS : ∀ k ∈ F, ¬ S k) (hb : ∀ k, S k → w0.heap.size ≤ k) : TreeIn w0 w' p ps F :=
  ⟨h.tree.keep hc hS, h.new, h.below.trans (hc.below h.below.size hb), h.fine⟩
theorem TreeIn.stays {w0 w w' : World} {p : Nat} {ps : List Pl} {F : List Nat} (h : TreeIn w0 w p ps F) (hb : Below w.heap.size w w') : TreeIn w0 w' p ps F :=
  h.keep (Chg.of_below hb (fun _ => False)) (fun _ _ h => h) (fun _ h => h.elim)
theorem TreeIn.alloc {w0 w : World} {p : Nat} {ps : List Pl} {F : List Nat} (h : TreeIn w0 w p ps F) (o : Obj) : TreeIn w0 (w.alloc o) p ps F :=
  h.stays ((Below.refl _ w).alloc (Nat.le_refl _) o)
theorem TreeIn.wrote {w0 w w' : World} {p : Nat} {ps ps' : List Pl} {F : List Nat} (h : TreeIn w0 w p ps F) (hn : Wrote w w' p ps' F) (hf : Fine ps') : ∃ F', TreeIn w0 w' p ps' F' ∧ Chg (· ∈ F) w w' ∧ ∀ k ∈ F', k ∈ F ∨ w.heap.size ≤ k := by
  obtain ⟨F', h1, h2, h3⟩ := hn
  exact ⟨F', ⟨h1, fun k hk => (h3 k hk).elim (h.new k) (Nat.le_trans h.below.size), h.below.trans (h2.below h.below.size h.new), hf⟩, h2, h3⟩
theorem new_in (w0 w : World) (hb : Below w0.heap.size w0 w) : Calls Try.prog 11 #[] w fun e w' => ∃ p, e = .returned (.pointer (some ⟨p, 0, none⟩)) ∧ Below w.heap.size w w' ∧ TreeIn w0 w' p [] [p] := by
  refine (new_any w).mono ?_
  rintro e w' ⟨rfl, h1, h2⟩
  exact ⟨_, rfl, h1, ⟨h2, fun k hk => by rw [List.mem_singleton] at hk; subst hk; exact hb.size, hb.trans (h1.mono hb.size), Fine.nil⟩⟩
theorem setP_mem {l : List Pl} {t y : Pl} (h : y ∈ setP l t) : y = t ∨ y ∈ l := by
  induction l with
  | nil => cases h
  | cons x l ih =>
    rw [setP] at h
    split at h
    · rcases List.mem_cons.1 h with h | h
      · exact .inl h
      · exact .inr (List.mem_cons_of_mem _ h)
    · rcases List.mem_cons.1 h with rfl | h
      · exact .inr List.mem_cons_self
      · exact (ih h).imp id (List.mem_cons_of_mem _)
theorem setP_keys {l : List Pl} {t : Pl} : (setP l t).map Pl.key = l.map Pl.key := by
  induction l with
  | nil => rfl
  | cons x l ih =>
    rw [setP]
    split
    · rename_i h; simp [cmpB_zero.1 h]
    · simp [ih]
theorem sorted_keys {l m : List Pl} (h : l.map Pl.key = m.map Pl.key) (hs : Sorted l) : Sorted m := by
  have h1 : (l.map Pl.key).Pairwise (fun a b => cmpB a b < 0) := List.pairwise_map.2 hs
  rw [h] at h1
  exact List.pairwise_map.1 h1
theorem Fine.set {ps : List Pl} {t : Pl} (h : Fine ps) (hb : t.body.length ≤ 3840) (hv : t.ver < 18446744073709551616) (ho : t.own < 18446744073709551616) : Fine (setP ps t) := by
  have hl : (setP ps t).length = ps.length := by have := congrArg List.length (setP_keys (l := ps) (t := t)); simpa using this
  refine ⟨sorted_keys setP_keys.symm h.sorted, by rw [hl]; exact h.len, ?_, ?_, ?_⟩
  all_goals (
    intro x hx
    rcases setP_mem hx with rfl | hx
    · assumption
    · first | exact h.body x hx | exact h.ver x hx | exact h.own x hx)
theorem put_new_in (w0 : World) (p : Nat) (ps ps' : List Pl) (F : List Nat) (key : ByteArray) (vo : Option Addr) (m c : Nat) (val : List UInt8) (OWN : Int) (own : Nat) (w : World) (h : TreeIn w0 w p ps F) (hk : key.size ≠ 0 ∧ key.size ≤ 64) (hv : Bts w vo val) (hm : val.length = m) (hm4 : m ≤ 3840) (hl : lookP ps key = none) (hlen : ps.length < 256) (hO : OWN = (own : Int)) (ho : own < 18446744073709551616) (hp : insP ps ⟨key, val, 1, own⟩ = ps') :
    Calls Try.prog 12 #[.pointer (some ⟨p, 0, none⟩), .string key, .slice vo m c, .int .u64 0, .int .u64 OWN] w fun r w' => r = .returned (.tuple #[.int .u64 1, .int .i64 0]) ∧ ∃ F', TreeIn w0 w' p ps' F' ∧ Chg (· ∈ F) w w' ∧ ∀ k ∈ F', k ∈ F ∨ w.heap.size ≤ k := by
  subst hO; subst hp
  refine (put_new p ps F key vo m c val own w h.tree h.fine hk.1 hk.2 hv hm hm4 hl hlen).mono ?_
  rintro r w' ⟨rfl, h1⟩
  exact ⟨rfl, h.wrote h1 (h.fine.ins hl hlen (by dsimp only; omega) (by dsimp only; omega) ho)⟩
theorem put_set_in (w0 : World) (p : Nat) (ps ps' : List Pl) (F : List Nat) (key : ByteArray) (x : Pl) (vo : Option Addr) (m c : Nat) (val : List UInt8) (WANT OWN NV : Int) (want : Nat) (w : World) (h : TreeIn w0 w p ps F) (hk : key.size ≠ 0 ∧ key.size ≤ 64) (hv : Bts w vo val) (hm : val.length = m) (hm4 : m ≤ 3840) (hl : lookP ps key = some x) (hW : WANT = (want : Int)) (hw0 : want ≠ 0) (hw : want < 18446744073709551615) (hx : x.ver = want) (hNV : NV = ((want + 1 : Nat) : Int)) (hp : setP ps ⟨key, val, want + 1, x.own⟩ = ps') :
    Calls Try.prog 12 #[.pointer (some ⟨p, 0, none⟩), .string key, .slice vo m c, .int .u64 WANT, .int .u64 OWN] w fun r w' => r = .returned (.tuple #[.int .u64 NV, .int .i64 0]) ∧ ∃ F', TreeIn w0 w' p ps' F' ∧ Chg (· ∈ F) w w' ∧ ∀ k ∈ F', k ∈ F ∨ w.heap.size ≤ k := by
  subst hW; subst hNV; subst hp
  have hwr : IntKind.u64.wrap ((want : Int) + 1) = ((want + 1 : Nat) : Int) := by rw [IntWalk.u64_in _ (by omega)]; push_cast; rfl
  have hxo : x.own < 18446744073709551616 := by
    have : x ∈ ps := by
      clear hv h hx
      induction ps with
      | nil => cases hl
      | cons y ps ih =>
        rw [lookP] at hl
        split at hl
        · cases hl; exact List.mem_cons_self
        · exact List.mem_cons_of_mem _ (ih hl)
    exact h.fine.own x this
  refine (put_set p ps F key x vo m c val want (want + 1) OWN w h.tree h.fine hk.1 hk.2 hv hm hm4 hl hw0 hx hwr).mono ?_
  rintro r w' ⟨rfl, h1⟩
  exact ⟨rfl, h.wrote h1 (h.fine.set (by dsimp only; omega) (by dsimp only; omega) hxo)⟩
theorem get_in (w0 : World) (p : Nat) (ps : List Pl) (F : List Nat) (key xk : ByteArray) (xb : List UInt8) (XV XW : Int) (xv xw : Nat) (w : World) (h : TreeIn w0 w p ps F) (hl : lookP ps key = some ⟨xk, xb, xv, xw⟩) (hXV : XV = (xv : Int)) (hXW : XW = (xw : Int)) :
    Calls Try.prog 13 #[.pointer (some ⟨p, 0, none⟩), .string key] w fun r w' => ∃ bo bc, r = .returned (.tuple #[.agg #[.string xk, .slice bo xb.length bc, .int .u64 XV, .int .u64 XW], .bool true]) ∧ Below w.heap.size w w' ∧ Bts w' bo xb := by
  subst hXV; subst hXW
  refine (get_some p ps F key _ w h.tree h.fine hl).mono ?_
  rintro r w' ⟨bo, bc, rfl, h1, h2, _⟩
  exact ⟨bo, bc, rfl, h1, h2.bts⟩
theorem conv_const (c : Value) (w : World) : (convert 27 27 (.slice (some ⟨w.heap.size, 0, none⟩) 1 1)).run Try.prog (w.alloc (.cells #[c] 5)) = .ok (.slice (some ⟨w.heap.size, 0, none⟩) 1 1) (w.alloc (.cells #[c] 5 (1, 2))) :=
  Lib.run_convert_bytes_const w 27 5 #[c] 1 1 Try.underlying27 Try.underlying5
def kA : ByteArray := ⟨#[97]⟩
set_option maxHeartbeats 1000000 in
set_option maxRecDepth 100000 in
theorem awake (w : World) : Calls Try.prog 10 #[] w fun e w' => e = .returned (.bool true) ∧ Below w.heap.size w w' := by
  have hcv := conv_const
  have HX := Lib.hid (And.intro (show insP [] ⟨⟨#[97]⟩, [120], 1, 7⟩ = [⟨⟨#[97]⟩, [120], 1, 7⟩] from rfl) (And.intro (show lookP [⟨⟨#[97]⟩, [120], 1, 7⟩] ⟨#[97]⟩ = some ⟨⟨#[97]⟩, [120], 1, 7⟩ from rfl) (And.intro (show setP [⟨⟨#[97]⟩, [120], 1, 7⟩] ⟨⟨#[97]⟩, [121], 2, 7⟩ = [⟨⟨#[97]⟩, [121], 2, 7⟩] from rfl) (show lookP [⟨⟨#[97]⟩, [121], 2, 7⟩] ⟨#[97]⟩ = some ⟨⟨#[97]⟩, [121], 2, 7⟩ from rfl))))
  have HA := Lib.hid (fun w1 : World => (Bts.alloc w1 #[.int .u8 120] 5 (1, 2) [120] rfl))
  have HB := Lib.hid (fun w1 : World => (Bts.alloc w1 #[.int .u8 121] 5 (1, 2) [121] rfl))
  go_enter Try.func10, Try.ntmps10
  go_wp2_with fail
  (with_reducible refine (new_in w _ (Below.refl _ _)).mono ?_)
  rintro e1 w1 ⟨p, rfl, _, hn1⟩
  have H1 := Lib.hid hn1
  clear hn1
  go_wp2_with fail
  (with_reducible refine (put_new_in w p [] _ _ ⟨#[97]⟩ _ 1 1 [120] 7 7 _ (H1.out.alloc _) (by decide) (HA.out _) rfl (by decide) rfl (by decide) rfl (by decide) HX.out.1).mono ?_)
  rintro e2 w2 ⟨rfl, F2, hn2, _, _⟩
  have H2 := Lib.hid hn2
  clear hn2
  go_wp2_with fail
  (with_reducible refine (put_exists p _ F2 ⟨#[97]⟩ _ _ 1 1 7 _ (H2.out.alloc _).tree H2.out.fine (by decide) (by decide) (by decide) HX.out.2.1).mono ?_)
  rintro e3 w3 ⟨rfl, hb3⟩
  have H3 := Lib.hid ((H2.out.alloc _).stays hb3)
  clear hb3
  go_wp2_with fail
  (with_reducible refine (put_set_in w p _ _ F2 ⟨#[97]⟩ _ _ 1 1 [121] 1 9 2 1 _ (H3.out.alloc _) (by decide) (HB.out _) rfl (by decide) HX.out.2.1 rfl (by decide) (by decide) rfl rfl HX.out.2.2.1).mono ?_)
  rintro e4 w4 ⟨rfl, F4, hn4, _, _⟩
  have H4 := Lib.hid hn4
  clear hn4
  go_wp2_with fail
  (with_reducible refine (get_in w p _ F4 ⟨#[97]⟩ _ _ 2 7 _ _ _ H4.out HX.out.2.2.2 rfl rfl).mono ?_)
  rintro e5 w5 ⟨bo, bc, rfl, hb5, _⟩
  have H5 := Lib.hid (H4.out.stays hb5)
  clear hb5
  go_wp2
  go_ret
  exact ⟨rfl, (H5.out.alloc _).below⟩
end Go.Proofs.Ytebhbfjnobcckaa
