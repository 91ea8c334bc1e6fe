/-
  LAYER 6: Put, whole; Delete; Drop.
-/
import Derived.Test.YtebhbfjnobcckaaTreeE
import Derived.Test.YtebhbfjnobcckaaDelN
namespace Go.Proofs.Ytebhbfjnobcckaa
open Go Go.RowKit

theorem no_key {key : ByteArray} (h : key.size = 0) : key.toList.isEmpty = true ∧ key.toList = [] := by
  have h1 : key.toList = [] := by
    rw [ba_toList]
    have : key.data.toList.length = 0 := by rw [Array.length_toList]; exact h
    exact List.eq_nil_of_length_eq_zero this
  exact ⟨by rw [h1]; rfl, h1⟩
theorem map_erase {α β : Type} (f : α → β) (l : List α) (i : Nat) : (l.eraseIdx i).map f = (l.map f).eraseIdx i := by
  rw [List.eraseIdx_eq_take_drop_succ, List.eraseIdx_eq_take_drop_succ, List.map_append, List.map_take, List.map_drop]
/-! ### Put, refused -/
theorem put_empty (p : Nat) (key : ByteArray) (v a b : Value) (w : World) (h : key.size = 0) :
    Calls Try.prog 12 #[.pointer (some ⟨p, 0, none⟩), .string key, v, a, b] w fun r w' => r = .returned (.tuple #[.int .u64 0, .int .i64 10]) ∧ w = w' := by
  obtain ⟨i1, i2⟩ := no_key h
  go_enter Try.func12, Try.ntmps12
  go_wp2
  go_ret2
  exact ⟨rfl, rfl⟩
theorem put_name (p : Nat) (key : ByteArray) (v a b : Value) (w : World) (h0 : key.size ≠ 0) (h : 64 < key.size) :
    Calls Try.prog 12 #[.pointer (some ⟨p, 0, none⟩), .string key, v, a, b] w fun r w' => r = .returned (.tuple #[.int .u64 0, .int .i64 10]) ∧ w = w' := by
  obtain ⟨i1, i2⟩ := key_facts h0
  have i3 : (64 : Int) < (key.size : Int) := by omega
  go_enter Try.func12, Try.ntmps12
  go_wp2
  go_ret2
  exact ⟨rfl, rfl⟩
theorem put_long (p : Nat) (key : ByteArray) (vo : Option Addr) (m c : Nat) (a b : Value) (w : World) (h0 : key.size ≠ 0) (h : key.size ≤ 64) (hm : 3840 < m) :
    Calls Try.prog 12 #[.pointer (some ⟨p, 0, none⟩), .string key, .slice vo m c, a, b] w fun r w' => r = .returned (.tuple #[.int .u64 0, .int .i64 3]) ∧ w = w' := by
  obtain ⟨i1, i2⟩ := key_facts h0
  have i3 : ¬ (64 : Int) < (key.size : Int) := by omega
  have i4 : (3840 : Int) < (m : Int) := by omega
  go_enter Try.func12, Try.ntmps12
  go_wp2
  go_ret2
  exact ⟨rfl, rfl⟩
set_option maxHeartbeats 1000000 in
theorem put_absent (p : Nat) (ps : List Pl) (F : List Nat) (key : ByteArray) (vo : Option Addr) (m c want : Nat) (own : Int) (w : World) (h : TreeAt w p ps F) (hf : Fine ps) (hk0 : key.size ≠ 0) (hk : key.size ≤ 64) (hm4 : m ≤ 3840) (hl : lookP ps key = none) (hw0 : want ≠ 0) :
    Calls Try.prog 12 #[.pointer (some ⟨p, 0, none⟩), .string key, .slice vo m c, .int .u64 (want : Int), .int .u64 own] w fun r w' => r = .returned (.tuple #[.int .u64 0, .int .i64 11]) ∧ Below w.heap.size w w' := by
  obtain ⟨lo, n, cap, l, h⟩ := h
  have HFD := Lib.hid (find_any p lo n cap l ps F key w h hf.sorted (Nat.le_trans hf.len (by decide)))
  obtain ⟨hke, hkn⟩ := key_facts hk0
  have hkI : ¬ (64 : Int) < (key.size : Int) := by omega
  have hmI : ¬ (3840 : Int) < (m : Int) := by omega
  have hwI : ((want : Int) == 0) = false := by simp; omega
  clear h
  go_enter Try.func12, Try.ntmps12
  go_wp2_with fail
  (with_reducible refine HFD.out.mono ?_)
  rintro r w2 ⟨i, fd, rfl, hb2, hin, hlo, hhi, hfd⟩
  obtain rfl : fd = false := by
    cases fd with
    | false => rfl
    | true =>
      obtain ⟨x, hx, h0⟩ := hfd.1 rfl
      rw [look_some hlo hx h0] at hl; cases hl
  have H2 := Lib.hid hb2
  clear hb2 hin hlo hhi hfd
  go_wp2
  go_ret2
  exact ⟨rfl, H2.out⟩
set_option maxHeartbeats 1000000 in
theorem put_many (p : Nat) (ps : List Pl) (F : List Nat) (key : ByteArray) (vo : Option Addr) (m c : Nat) (own : Int) (w : World) (h : TreeAt w p ps F) (hf : Fine ps) (hk0 : key.size ≠ 0) (hk : key.size ≤ 64) (hm4 : m ≤ 3840) (hl : lookP ps key = none) (h256 : 256 ≤ ps.length) :
    Calls Try.prog 12 #[.pointer (some ⟨p, 0, none⟩), .string key, .slice vo m c, .int .u64 0, .int .u64 own] w fun r w' => r = .returned (.tuple #[.int .u64 0, .int .i64 14]) ∧ Below w.heap.size w w' := by
  obtain ⟨lo, n, cap, l, h⟩ := h
  have HFD := Lib.hid (find_any p lo n cap l ps F key w h hf.sorted (Nat.le_trans hf.len (by decide)))
  have HI := Lib.hid h
  obtain ⟨hke, hkn⟩ := key_facts hk0
  have hkI : ¬ (64 : Int) < (key.size : Int) := by omega
  have hmI : ¬ (3840 : Int) < (m : Int) := by omega
  have hnI : (256 : Int) ≤ (n : Int) := by have := h.len.2; omega
  clear h
  go_enter Try.func12, Try.ntmps12
  go_wp2_with fail
  (with_reducible refine HFD.out.mono ?_)
  rintro r w2 ⟨i, fd, rfl, hb2, hin, hlo, hhi, hfd⟩
  obtain rfl : fd = false := by
    cases fd with
    | false => rfl
    | true =>
      obtain ⟨x, hx, h0⟩ := hfd.1 rfl
      rw [look_some hlo hx h0] at hl; cases hl
  obtain ⟨z0, z2⟩ := cells1 ((Chg.of_below hb2 (fun _ => False)).heap HI.out.heap (fun h => h))
  have H2 := Lib.hid hb2
  clear hb2 hin hlo hhi hfd
  go_wp2
  go_ret2
  exact ⟨rfl, H2.out⟩
/-! ### Put, in plain words -/
def putP (l : List Pl) (key : ByteArray) (body : List UInt8) (want own : Nat) : List Pl × Nat × Int :=
  if key.size = 0 ∨ 64 < key.size then (l, 0, 10)
  else if 3840 < body.length then (l, 0, 3)
  else match lookP l key with
    | none => if want ≠ 0 then (l, 0, 11) else if 256 ≤ l.length then (l, 0, 14) else (insP l ⟨key, body, 1, own⟩, 1, 0)
    | some x => if want = 0 then (l, 0, 12) else if x.ver ≠ want then (l, 0, 13) else (setP l ⟨key, body, (want + 1) % 18446744073709551616, x.own⟩, (want + 1) % 18446744073709551616, 0)
theorem look_mem {ps : List Pl} {key : ByteArray} {x : Pl} (h : lookP ps key = some x) : x ∈ ps := by
  induction ps with
  | nil => cases h
  | cons y ps ih =>
    rw [lookP] at h
    split at h
    · cases h; exact List.mem_cons_self
    · exact List.mem_cons_of_mem _ (ih h)
theorem Fine.puts {l : List Pl} (h : Fine l) (key : ByteArray) (body : List UInt8) (want own : Nat) (ho : own < 18446744073709551616) : Fine (putP l key body want own).1 := by
  unfold putP
  split
  · exact h
  · split
    · exact h
    · rename_i h1 h2
      split
      · rename_i hl
        split
        · exact h
        · split
          · exact h
          · exact h.ins hl (by omega) (by dsimp only; omega) (by dsimp only; omega) ho
      · rename_i x hl
        split
        · exact h
        · split
          · exact h
          · exact h.set (by dsimp only; omega) (by dsimp only; omega) (h.own x (look_mem hl))
theorem wrap_next (want : Nat) (h : want < 18446744073709551616) : IntKind.u64.wrap ((want : Int) + 1) = (((want + 1) % 18446744073709551616 : Nat) : Int) := by
  by_cases h1 : want = 18446744073709551615
  · subst h1; rfl
  · rw [IntWalk.u64_in _ (by omega)]; omega
theorem put_all (p : Nat) (ps : List Pl) (F : List Nat) (key : ByteArray) (vo : Option Addr) (m c : Nat) (val : List UInt8) (want own : Nat) (w : World) (h : TreeAt w p ps F) (hf : Fine ps) (hv : Bts w vo val) (hm : val.length = m) (hw : want < 18446744073709551616) :
    Calls Try.prog 12 #[.pointer (some ⟨p, 0, none⟩), .string key, .slice vo m c, .int .u64 (want : Int), .int .u64 (own : Int)] w fun r w' => r = .returned (.tuple #[.int .u64 ((putP ps key val want own).2.1 : Int), .int .i64 (putP ps key val want own).2.2]) ∧ Wrote w w' p (putP ps key val want own).1 F := by
  subst hm
  unfold putP
  by_cases h0 : key.size = 0
  · rw [if_pos (.inl h0)]
    refine (put_empty p key _ _ _ w h0).mono ?_
    rintro r w' ⟨rfl, rfl⟩
    exact ⟨rfl, .same h (Below.refl _ _)⟩
  by_cases h1 : 64 < key.size
  · rw [if_pos (.inr h1)]
    refine (put_name p key _ _ _ w h0 h1).mono ?_
    rintro r w' ⟨rfl, rfl⟩
    exact ⟨rfl, .same h (Below.refl _ _)⟩
  rw [if_neg (by omega)]
  by_cases h2 : 3840 < val.length
  · rw [if_pos h2]
    refine (put_long p key vo _ c _ _ w h0 (by omega) h2).mono ?_
    rintro r w' ⟨rfl, rfl⟩
    exact ⟨rfl, .same h (Below.refl _ _)⟩
  rw [if_neg h2]
  cases hl : lookP ps key with
  | none =>
    dsimp only
    by_cases h3 : want = 0
    · subst h3
      rw [if_neg (by simp)]
      by_cases h4 : 256 ≤ ps.length
      · rw [if_pos h4]
        refine (put_many p ps F key vo _ c _ w h hf h0 (by omega) (by omega) hl h4).mono ?_
        rintro r w' ⟨rfl, hb⟩
        exact ⟨rfl, .same h hb⟩
      · rw [if_neg h4]
        exact put_new p ps F key vo _ c val own w h hf h0 (by omega) hv rfl (by omega) hl (by omega)
    · rw [if_pos h3]
      refine (put_absent p ps F key vo _ c want _ w h hf h0 (by omega) (by omega) hl h3).mono ?_
      rintro r w' ⟨rfl, hb⟩
      exact ⟨rfl, .same h hb⟩
  | some x =>
    dsimp only
    by_cases h3 : want = 0
    · subst h3
      rw [if_pos rfl]
      refine (put_exists p ps F key x vo _ c _ w h hf h0 (by omega) (by omega) hl).mono ?_
      rintro r w' ⟨rfl, hb⟩
      exact ⟨rfl, .same h hb⟩
    · rw [if_neg h3]
      by_cases h4 : x.ver = want
      · rw [if_neg (by simpa using h4)]
        exact put_set p ps F key x vo _ c val want _ _ w h hf h0 (by omega) hv rfl (by omega) hl h3 h4 (wrap_next want hw)
      · rw [if_pos h4]
        refine (put_version p ps F key x vo _ c want _ w h hf h0 (by omega) (by omega) hl h3 h4).mono ?_
        rintro r w' ⟨rfl, hb⟩
        exact ⟨rfl, .same h hb⟩
/-! ### Delete -/
set_option maxHeartbeats 1000000 in
theorem delete_any (b off n n1 cap : Nat) (es : List Nd) (I J : Int) (i : Nat) (w : World) (h : Own w 4 (some ⟨b, off, none⟩) n cap (es.flatMap Nd.cells)) (hes : es.length = n) (hn : n ≤ 4096) (hn1 : n = n1 + 1) (hI : I = (i : Int)) (hJ : J = ((i + 1 : Nat) : Int)) (hi : i < n) :
    Calls Try.prog 36 #[.slice (some ⟨b, off, none⟩) n cap, .int .i64 I, .int .i64 J] w fun e w' => e = .returned (.slice (some ⟨b, off, none⟩) n1 cap) ∧ Own w' 4 (some ⟨b, off, none⟩) n1 cap ((es.eraseIdx i).flatMap Nd.cells) ∧ Chg (· = b) w w' := by
  subst hI; subst hJ
  have hcap := h.le
  have hmax := h.max
  have HO := Lib.hid (show Own w.drew 4 (some ⟨b, off, none⟩) i cap ((es.take i).flatMap Nd.cells) by rw [← fl_take el_e]; exact (h.cut (by omega) (by omega) (Nat.le_refl _)).drew)
  obtain ⟨A, hA⟩ : ∃ A : Option Addr, (if cap = i + 1 then some (⟨b, off, none⟩ : Addr) else some ⟨b, off + (i + 1) * 4, none⟩) = A := ⟨_, rfl⟩
  have HR := Lib.hid (show Row w.drew A _ by rw [← hA]; exact (fl_row el_e h hes (i + 1)).drew)
  have HL := Lib.hid (show ((es.drop (i + 1)).flatMap Nd.cells).length = (n - (i + 1)) * 4 by rw [fl_len el_e, List.length_drop, hes])
  have HN := Lib.hid (show i + (n - (i + 1)) = n1 by omega)
  have HE := Lib.hid (show (es.take i).flatMap Nd.cells ++ (es.drop (i + 1)).flatMap Nd.cells = (es.eraseIdx i).flatMap Nd.cells by rw [← List.flatMap_append, List.eraseIdx_eq_take_drop_succ])
  have HD := Lib.hid hn1
  clear h hes hn1
  have hic : i ≤ cap := by omega
  have hic' : (i : Int) ≤ (cap : Int) := by omega
  have hp0 : (0 : Int) ≤ (i : Int) + 1 := by omega
  have hp1 : (i : Int) + 1 ≤ (n : Int) := by omega
  have hp2 : ((i : Int) + 1).toNat = i + 1 := by omega
  have hp3 : (n : Int) ≤ (cap : Int) := by omega
  have hroom : i + (n - (i + 1)) ≤ cap := by omega
  have hbytes : (i + (n - (i + 1))) * 56 ≤ 140737488355328 := by omega
  go_enter Try.func36, Try.ntmps36
  go_wp2
  go_region_law (refine step_append_in rfl (.tmp 22) (.tmp 25) el_i rfl (c := cap - (i + 1)) ?hs ?hx HO.out HL.out HR.out (fl_one el_e _) hroom hbytes ?_; (case hs => simp [Act.eval, Act.put]); (case hx => simp [Act.eval, Act.put]); rw [HN.out, HE.out]; intro w2 hx hch; have H2 := Lib.hid (And.intro hx hch); clear hx hch)
  have g1 : (n1 : Int) ≤ (n : Int) := by have := HD.out; omega
  have g2 : ¬ cap = n1 := by have := HD.out; omega
  have g3 : n1 ≤ n := by have := HD.out; omega
  have g4 : 0 < n - n1 := by have := HD.out; omega
  have g5 : n1 + (n - n1) ≤ cap := by have := HD.out; omega
  go_wp2_with (refine wpList_clear' rfl (.tmp 31) el_i rfl rfl rfl H2.out.1 g4 g5 zero_one' ?_; intro w3 hx hch; have H3 := Lib.hid (And.intro hx hch); clear hx hch)
  all_goals (
    go_ret
    exact ⟨rfl, H3.out.1, ((Chg.refl (· = b) w).drew.trans H2.out.2 (by rintro i _ ⟨a, ha, e⟩; cases ha; exact e.symm)).trans H3.out.2 (fun _ _ h => h)⟩)

def delK : List Pl → ByteArray → List Pl
  | [], _ => []
  | x :: l, key => if cmpB x.key key = 0 then l else x :: delK l key
theorem delK_at : ∀ {ps : List Pl} {key : ByteArray} {i : Nat} {x : Pl}, LoP key ps i → ps[i]? = some x → cmpB x.key key = 0 → delK ps key = ps.eraseIdx i
  | [], _, _, _, _, hx, _ => by simp at hx
  | y :: ps, key, 0, x, _, hx, h0 => by simp at hx; subst hx; rw [delK, if_pos h0]; rfl
  | y :: ps, key, i + 1, x, hlo, hx, h0 => by
    have h1 := hlo 0 y (by omega) rfl
    rw [delK, if_neg (by omega), delK_at (i := i) (fun k z hk hz => hlo (k + 1) z (by omega) (by simpa using hz)) (by simpa using hx) h0]
    rfl
def delP (l : List Pl) (key : ByteArray) (want : Nat) : List Pl × Int := match lookP l key with
  | none => (l, 11)
  | some x => if x.ver ≠ want then (l, 13) else (delK l key, 0)
theorem delK_sub (l : List Pl) (key : ByteArray) : (delK l key).Sublist l := by
  induction l with
  | nil => exact List.Sublist.refl _
  | cons e l ih =>
    rw [delK]
    split
    · exact List.sublist_cons_self _ _
    · exact ih.cons_cons _
theorem Fine.sub {l m : List Pl} (h : Fine l) (hs : m.Sublist l) : Fine m :=
  ⟨List.Pairwise.sublist hs h.sorted, Nat.le_trans hs.length_le h.len, fun x hx => h.body x (hs.subset hx), fun x hx => h.ver x (hs.subset hx), fun x hx => h.own x (hs.subset hx)⟩
theorem Fine.dels {l : List Pl} (h : Fine l) (key : ByteArray) (want : Nat) : Fine (delP l key want).1 := by
  unfold delP
  split
  · exact h
  · split
    · exact h
    · exact h.sub (delK_sub l key)
/-- A list whose nodes are some of the old ones is laid in the old place. -/
theorem less_end {w W w3 : World} {p n n1 cap b off : Nat} {l m : List Nd} {ps qs : List Pl} {F : List Nat} (h : TreeIs w p (some ⟨b, off, none⟩) n cap l ps F) (hbW : Chg (fun _ => False) w W) (hm : ∀ e ∈ m, e ∈ l) (hq : m.map Nd.pl = qs)
    (ho : Own w3 4 (some ⟨b, off, none⟩) n1 cap (m.flatMap Nd.cells)) (hch : Chg (· = b) W w3) : Wrote w (w3.setCell ⟨p, 0, none⟩ (.slice (some ⟨b, off, none⟩) n1 cap)) p qs F := by
  have hbF : b ∈ F := h.bF b (mem_blk.2 ⟨_, rfl, rfl⟩)
  have hpb : p ≠ b := fun e => h.apart (mem_blk.2 ⟨_, rfl, e.symm⟩)
  have hset := Chg.one w3 p 0 (.slice (some ⟨b, off, none⟩) n1 cap)
  have hC3 : Chg (· ∈ F) w w3 := (hbW.to (fun _ h => h.elim)).trans hch (fun k _ e => e ▸ hbF)
  refine ⟨F, ⟨some ⟨b, off, none⟩, n1, cap, m, ⟨hq, heap_set (hch.heap (hbW.heap h.heap (fun h => h)) hpb) 0 _, ho.keep hset (fun a ha e => by cases ha; exact hpb e.symm), h.apart, fun e he => ?_, h.pF, h.bF, fun k hk => ?_⟩⟩, hC3.set h.pF 0 _, fun k hk => .inl hk⟩
  · obtain ⟨b1, b2, b3⟩ := h.body e (hm e he)
    exact ⟨hset.row (hch.row (hbW.row b1 (fun _ _ h => h)) (fun a ha e => (b3 a ha).2.2 (mem_blk.2 ⟨_, rfl, e.symm⟩))) (fun a ha h => (b3 a ha).2.1 h), b2, b3⟩
  · have := h.lt k hk
    have := hC3.size
    have := hset.size
    omega
set_option maxHeartbeats 1000000 in
theorem delete_none (p : Nat) (ps : List Pl) (F : List Nat) (key : ByteArray) (want : Value) (w : World) (h : TreeAt w p ps F) (hf : Fine ps) (hl : lookP ps key = none) :
    Calls Try.prog 23 #[.pointer (some ⟨p, 0, none⟩), .string key, want] w fun r w' => r = .returned (.int .i64 11) ∧ Below w.heap.size w w' := by
  obtain ⟨lo, n, cap, l, h⟩ := h
  have HFD := Lib.hid (find_any p lo n cap l ps F key w h hf.sorted (Nat.le_trans hf.len (by decide)))
  clear h
  go_enter Try.func23, Try.ntmps23
  go_wp2_with fail
  (with_reducible refine HFD.out.mono ?_)
  rintro r w2 ⟨i, fd, rfl, hb2, hin, hlo, hhi, hfd⟩
  obtain rfl : fd = false := by
    cases fd with
    | false => rfl
    | true =>
      obtain ⟨x, hx, h0⟩ := hfd.1 rfl
      rw [look_some hlo hx h0] at hl; cases hl
  have H2 := Lib.hid hb2
  clear hb2 hin hlo hhi hfd
  go_wp2
  go_ret
  exact ⟨rfl, H2.out⟩
set_option maxHeartbeats 2000000 in
theorem delete_ok (p : Nat) (ps : List Pl) (F : List Nat) (key : ByteArray) (x : Pl) (want : Nat) (w : World) (h : TreeAt w p ps F) (hf : Fine ps) (hl : lookP ps key = some x) (hv : x.ver = want) :
    Calls Try.prog 23 #[.pointer (some ⟨p, 0, none⟩), .string key, .int .u64 (want : Int)] w fun r w' => r = .returned (.int .i64 0) ∧ Wrote w w' p (delK ps key) F := by
  obtain ⟨lo, n, cap, l, h⟩ := h
  have HFD := Lib.hid (find_any p lo n cap l ps F key w h hf.sorted (Nat.le_trans hf.len (by decide)))
  have HI := Lib.hid h
  have h256 := hf.len
  clear h
  go_enter Try.func23, Try.ntmps23
  go_wp2_with fail
  (with_reducible refine HFD.out.mono ?_)
  rintro r w2 ⟨i, fd, rfl, hb2, hin, hlo, hhi, hfd⟩
  obtain rfl : fd = true := by
    cases fd with
    | true => rfl
    | false =>
      rw [look_no hf.sorted hlo hhi (fun h => by have := hfd.2 h; cases this)] at hl; cases hl
  obtain ⟨x', hx', h0⟩ := hfd.1 rfl
  obtain rfl : x' = x := by rw [look_some hlo hx' h0] at hl; exact Option.some.inj hl
  obtain ⟨e, he, rfl⟩ := HI.out.got hx'
  have HI2 := Lib.hid (HI.out.keep (Chg.of_below hb2 (fun _ => False)) (fun _ _ h => h))
  have hni := (List.getElem?_eq_some_iff.1 he).1
  have hnl := HI.out.len
  have hii : (i : Int) < (n : Int) := by omega
  have hi0 : (0 : Int) ≤ (i : Int) := by omega
  have hn4 : n ≤ 4096 := by omega
  obtain ⟨b, off, hlo', q0, q1, q2, q3⟩ := nd_at HI2.out.own.row he
  subst hlo'
  obtain ⟨z0, z2⟩ := cells1 HI2.out.heap
  have HDK := Lib.hid (And.intro (delK_at hlo hx' h0) (And.intro hb2 he))
  obtain ⟨n1, hn1⟩ : ∃ n1, n = n1 + 1 := ⟨n - 1, by omega⟩
  have HD := Lib.hid (delete_any b off n n1 cap l (i : Int) ((i : Int) + 1) i w2 HI2.out.own hnl.1 hn4 hn1 rfl (by omega) (by omega))
  clear hb2 hin hlo hhi hfd hx' h0 hl he hn1 hni hnl
  have hvI : (e.ver : Int) = (want : Int) := by have : e.ver = want := hv; omega
  clear hv
  generalize (e.ver : Int) = V at *
  subst hvI
  go_wp2_with (go_at_call 36; (with_reducible refine HD.out.mono ?_); rintro r w3 ⟨rfl, ho, hc⟩; have hp3 := hc.heap HI2.out.heap (fun e => HI2.out.apart (mem_blk.2 ⟨_, rfl, e.symm⟩)); obtain ⟨y0, y2⟩ := cells1 hp3; have H3 := Lib.hid (And.intro ho hc); clear ho hc hp3)
  go_ret
  refine ⟨rfl, less_end HI.out (Chg.of_below HDK.out.2.1 (fun _ => False)) (fun e he => (List.eraseIdx_sublist l i).subset he) ?_ H3.out.1 H3.out.2⟩
  rw [HDK.out.1, ← HI.out.map, map_erase]
set_option maxHeartbeats 2000000 in
theorem delete_old (p : Nat) (ps : List Pl) (F : List Nat) (key : ByteArray) (x : Pl) (want : Nat) (w : World) (h : TreeAt w p ps F) (hf : Fine ps) (hl : lookP ps key = some x) (hv : x.ver ≠ want) :
    Calls Try.prog 23 #[.pointer (some ⟨p, 0, none⟩), .string key, .int .u64 (want : Int)] w fun r w' => r = .returned (.int .i64 13) ∧ Below w.heap.size w w' := by
  obtain ⟨lo, n, cap, l, h⟩ := h
  have HFD := Lib.hid (find_any p lo n cap l ps F key w h hf.sorted (Nat.le_trans hf.len (by decide)))
  have HI := Lib.hid h
  have h256 := hf.len
  clear h
  go_enter Try.func23, Try.ntmps23
  go_wp2_with fail
  (with_reducible refine HFD.out.mono ?_)
  rintro r w2 ⟨i, fd, rfl, hb2, hin, hlo, hhi, hfd⟩
  obtain rfl : fd = true := by
    cases fd with
    | true => rfl
    | false =>
      rw [look_no hf.sorted hlo hhi (fun h => by have := hfd.2 h; cases this)] at hl; cases hl
  obtain ⟨x', hx', h0⟩ := hfd.1 rfl
  obtain rfl : x' = x := by rw [look_some hlo hx' h0] at hl; exact Option.some.inj hl
  obtain ⟨e, he, rfl⟩ := HI.out.got hx'
  have HI2 := Lib.hid (HI.out.keep (Chg.of_below hb2 (fun _ => False)) (fun _ _ h => h))
  have hni := (List.getElem?_eq_some_iff.1 he).1
  have hnl := HI.out.len
  have hii : (i : Int) < (n : Int) := by omega
  have hi0 : (0 : Int) ≤ (i : Int) := by omega
  have hn4 : n ≤ 4096 := by omega
  obtain ⟨b, off, hlo', q0, q1, q2, q3⟩ := nd_at HI2.out.own.row he
  subst hlo'
  obtain ⟨z0, z2⟩ := cells1 HI2.out.heap
  have HDK := Lib.hid (And.intro (delK_at hlo hx' h0) (And.intro hb2 he))
  obtain ⟨n1, hn1⟩ : ∃ n1, n = n1 + 1 := ⟨n - 1, by omega⟩
  have HD := Lib.hid (delete_any b off n n1 cap l (i : Int) ((i : Int) + 1) i w2 HI2.out.own hnl.1 hn4 hn1 rfl (by omega) (by omega))
  clear hb2 hin hlo hhi hfd hx' h0 hl he hn1 hni hnl
  have hvI : ((e.ver : Int) == (want : Int)) = false := by have : e.ver ≠ want := hv; simp; omega
  clear hv
  generalize (e.ver : Int) = V at *
  go_wp2
  go_ret
  exact ⟨rfl, HDK.out.2.1⟩
theorem delete_all (p : Nat) (ps : List Pl) (F : List Nat) (key : ByteArray) (want : Nat) (w : World) (h : TreeAt w p ps F) (hf : Fine ps) :
    Calls Try.prog 23 #[.pointer (some ⟨p, 0, none⟩), .string key, .int .u64 (want : Int)] w fun r w' => r = .returned (.int .i64 (delP ps key want).2) ∧ Wrote w w' p (delP ps key want).1 F := by
  unfold delP
  cases hl : lookP ps key with
  | none =>
    refine (delete_none p ps F key _ w h hf hl).mono ?_
    rintro r w' ⟨rfl, hb⟩
    exact ⟨rfl, .same h hb⟩
  | some x =>
    dsimp only
    by_cases hv : x.ver = want
    · rw [if_neg (by simpa using hv)]
      exact delete_ok p ps F key x want w h hf hl hv
    · rw [if_pos hv]
      refine (delete_old p ps F key x want w h hf hl hv).mono ?_
      rintro r w' ⟨rfl, hb⟩
      exact ⟨rfl, .same h hb⟩
/-! ### Drop -/
def dropP (l : List Pl) (own : Nat) : List Pl := if own = 0 then l else l.filter (fun x => !(x.own == own))
theorem Fine.drops {l : List Pl} (h : Fine l) (own : Nat) : Fine (dropP l own) := by
  unfold dropP
  split
  · exact h
  · exact h.sub List.filter_sublist
theorem drop_zero (p : Nat) (w : World) : Calls Try.prog 19 #[.pointer (some ⟨p, 0, none⟩), .int .u64 0] w fun r w' => r = .returned (.tuple #[]) ∧ Below w.heap.size w w' := by
  go_enter Try.func19, Try.ntmps19
  go_wp2
  go_end0
  exact ⟨rfl, (Below.refl _ w).alloc (Nat.le_refl _) _⟩
theorem drop_by (own : Nat) (l : List Nd) (c : Nat) : DelBy Try.prog 34 #[.pointer (some ⟨c, 0, none⟩)] Nd.val (fun e => e.own == own) l (fun _ F w => F = [c] ∧ w.heap[c]? = some (.cells #[.int .u64 (own : Int)] 26 (0, 0))) := by
  refine DelBy.pure l c _ _ (fun _ _ => rfl) ?_
  intro e w hc
  obtain ⟨xk, xb, xv, xw, xo, xc⟩ := e
  have hc' := heap_new (o := .cells #[.string xk, .slice xo xb.length xc, .int .u64 (xv : Int), .int .u64 (xw : Int)] 32) hc
  obtain ⟨z0, _⟩ := cells1 hc'
  show Calls Try.prog 34 #[.agg #[.string xk, .slice xo xb.length xc, .int .u64 (xv : Int), .int .u64 (xw : Int)], .pointer (some ⟨c, 0, none⟩)] w _
  clear hc hc'
  by_cases h1 : xw = own
  · subst h1
    go_enter Try.func34, Try.ntmps34
    go_wp2
    go_ret
    exact ⟨by simp, (Below.refl _ w).alloc (Nat.le_refl _) _⟩
  · have h1i : ((xw : Int) == (own : Int)) = false := by simp; omega
    have h1b : (xw == own) = false := by simpa using h1
    go_enter Try.func34, Try.ntmps34
    go_wp2
    go_ret
    exact ⟨by simp [h1b], (Below.refl _ w).alloc (Nat.le_refl _) _⟩
theorem drop_end {w W w3 : World} {p n n1 cap : Nat} {lo : Option Addr} {l m : List Nd} {ps qs : List Pl} {F : List Nat} (h : TreeIs w p lo n cap l ps F) (hbW : Chg (fun _ => False) w W) (hm : ∀ e ∈ m, e ∈ l) (hq : m.map Nd.pl = qs) {c : Nat} (hc : w.heap.size ≤ c)
    (ho : Own w3 4 lo n1 cap (m.flatMap Nd.cells)) (hch : Chg (fun i => i ∈ [c] ∨ ∃ a, lo = some a ∧ a.block = i) W w3) : Wrote w (w3.setCell ⟨p, 0, none⟩ (.slice lo n1 cap)) p qs F := by
  have hset := Chg.one w3 p 0 (.slice lo n1 cap)
  have hpc : p ≠ c := by have := h.lt p h.pF; omega
  have hC3 : Chg (· ∈ F) w w3 := (hbW.to (fun _ h => h.elim)).trans hch (fun k hk e => by
    rcases e with e | ⟨a, ha, e⟩
    · rw [List.mem_singleton] at e; omega
    · exact h.bF k (mem_blk.2 ⟨a, ha, e⟩))
  have hno : ∀ k ∈ F, k ∉ blk lo → ¬ (k ∈ [c] ∨ ∃ a, lo = some a ∧ a.block = k) := fun k hk hn e => by
    rcases e with e | ⟨a, ha, e⟩
    · rw [List.mem_singleton] at e; have := h.lt k hk; omega
    · exact hn (mem_blk.2 ⟨a, ha, e⟩)
  refine ⟨F, ⟨lo, n1, cap, m, ⟨hq, heap_set (hch.heap (hbW.heap h.heap (fun h => h)) (hno p h.pF h.apart)) 0 _, ho.keep hset (fun a ha e => h.apart (mem_blk.2 ⟨a, ha, e⟩)), h.apart, fun e he => ?_, h.pF, h.bF, fun k hk => ?_⟩⟩, hC3.set h.pF 0 _, fun k hk => .inl hk⟩
  · obtain ⟨b1, b2, b3⟩ := h.body e (hm e he)
    exact ⟨hset.row (hch.row (hbW.row b1 (fun _ _ h => h)) (fun a ha => hno _ (b3 a ha).1 (b3 a ha).2.2)) (fun a ha h => (b3 a ha).2.1 h), b2, b3⟩
  · have := h.lt k hk
    have := hC3.size
    have := hset.size
    omega
set_option maxHeartbeats 1000000 in
theorem drop_some (p : Nat) (ps : List Pl) (F : List Nat) (own : Nat) (w : World) (h : TreeAt w p ps F) (hf : Fine ps) (ho : own ≠ 0) :
    Calls Try.prog 19 #[.pointer (some ⟨p, 0, none⟩), .int .u64 (own : Int)] w fun r w' => r = .returned (.tuple #[]) ∧ Wrote w w' p (ps.filter (fun x => !(x.own == own))) F := by
  obtain ⟨lo, n, cap, l, h⟩ := h
  have hoI : ((own : Int) == 0) = false := by simp; omega
  have hA := (Chg.refl (fun _ => False) w).alloc (.cells #[.int .u64 (own : Int)] 26)
  have h256 : n ≤ 1000000 := by have := h.len.2; have := hf.len; omega
  have HD := Lib.hid (delfunc_any lo n cap l [w.heap.size] (w.alloc (.cells #[.int .u64 (own : Int)] 26)) (h.own.keep hA (fun _ _ h => h)) (drop_by own l w.heap.size) ⟨rfl, heap_top w _⟩ (fun a ha hk => by have := (h.own.at_ a ha).2.1; rw [List.mem_singleton] at hk; omega) h256)
  have hmf : ∀ (fn : Fn) (first cap : Array Value) (w : World), (Instr.makeFunc fn first cap).run Try.prog w = .ok (.func fn first cap) w := fun _ _ _ _ => rfl
  obtain ⟨z0, z2⟩ := cells1 (hA.heap h.heap (fun h => h))
  have HI := Lib.hid (And.intro h hA)
  clear h hA
  go_enter Try.func19, Try.ntmps19
  go_wp2_with (go_at_call 33; (with_reducible refine HD.out.mono ?_); rintro r w3 ⟨k, F3, rfl, ho3, hs3, hc3, hg3⟩; have hp3 := hc3.heap (HI.out.2.heap HI.out.1.heap (fun h => h)) (fun e => by rcases e with e | ⟨a, ha, e⟩; (rw [List.mem_singleton] at e; have := HI.out.1.lt p HI.out.1.pF; omega); exact HI.out.1.apart (mem_blk.2 ⟨a, ha, e⟩)); obtain ⟨y0, y2⟩ := cells1 hp3; have H3 := Lib.hid (And.intro ho3 hc3); clear ho3 hs3 hc3 hg3 hp3)
  go_end0
  refine ⟨rfl, drop_end HI.out.1 HI.out.2 (fun e he => (List.mem_filter.1 he).1) ?_ (Nat.le_refl _) H3.out.1 H3.out.2⟩
  rw [← HI.out.1.map, List.filter_map]
  rfl
theorem drop_all (p : Nat) (ps : List Pl) (F : List Nat) (own : Nat) (w : World) (h : TreeAt w p ps F) (hf : Fine ps) :
    Calls Try.prog 19 #[.pointer (some ⟨p, 0, none⟩), .int .u64 (own : Int)] w fun r w' => r = .returned (.tuple #[]) ∧ Wrote w w' p (dropP ps own) F := by
  unfold dropP
  by_cases h0 : own = 0
  · subst h0
    rw [if_pos rfl]
    refine (drop_zero p w).mono ?_
    rintro r w' ⟨rfl, hb⟩
    exact ⟨rfl, .same h hb⟩
  · rw [if_neg h0]
    exact drop_some p ps F own w h hf h0
end Go.Proofs.Ytebhbfjnobcckaa
