/-
  LAYER 20: Take; slices.Delete of messages.
-/
import Derived.Test.YtgbfpllaianeaaaNetB
namespace Go.Proofs.Ytgbfpllaianeaaa
open Go Go.RowKit

theorem flat_take (es : List Ent) (i : Nat) : (es.flatMap Ent.cells).take (i * 3) = (es.take i).flatMap Ent.cells := by
  induction es generalizing i with
  | nil => simp
  | cons e es ih =>
    cases i with
    | zero => simp
    | succ i =>
      rw [List.flatMap_cons, List.take_succ_cons, List.flatMap_cons, List.take_append, show e.cells.length = 3 from rfl, show (i + 1) * 3 - 3 = i * 3 by omega, ih, List.take_of_length_le (by show 3 ≤ _; omega)]
theorem flat_drop (es : List Ent) (i : Nat) : (es.flatMap Ent.cells).drop (i * 3) = (es.drop i).flatMap Ent.cells := by
  induction es generalizing i with
  | nil => simp
  | cons e es ih =>
    cases i with
    | zero => simp
    | succ i =>
      rw [List.flatMap_cons, List.drop_succ_cons, List.drop_append, show e.cells.length = 3 from rfl, show (i + 1) * 3 - 3 = i * 3 by omega, ih, List.drop_of_length_le (by show 3 ≤ _; omega), List.nil_append]
theorem flat_one (es : List Ent) : ∀ u ∈ es.flatMap Ent.cells, u.oneCell' = true := by
  intro u hu
  obtain ⟨e, _, h⟩ := List.mem_flatMap.1 hu
  exact msg_one e u h
theorem zero_one : ∀ u ∈ (Value.agg #[.int .i64 0, .int .i64 0, .slice none 0 0]).cells.toList, u.oneCell' = true := by
  intro u hu
  simp [Value.cells] at hu
  rcases hu with rfl | rfl | rfl <;> rfl
theorem flat_row {w : World} {b off n cap : Nat} {es : List Ent} (h : Own w 3 (some ⟨b, off, none⟩) n cap (es.flatMap Ent.cells)) (hes : es.length = n) (i : Nat) : Row w (if cap = i then some ⟨b, off, none⟩ else some ⟨b, off + i * 3, none⟩) ((es.drop i).flatMap Ent.cells) := by
  by_cases hc : cap = i
  · rw [if_pos hc]
    have hle := h.le
    rw [List.drop_of_length_le (by omega)]
    exact fun h => absurd rfl h
  · rw [if_neg hc, ← flat_drop]
    exact h.row.drop (i * 3)
set_option maxHeartbeats 1000000 in
set_option maxRecDepth 100000 in
/-- slices.Delete of one message. -/
theorem delete_any (b off n n1 cap : Nat) (es : List Ent) (I J : Int) (i : Nat) (w : World) (h : Own w 3 (some ⟨b, off, none⟩) n cap (es.flatMap Ent.cells)) (hes : es.length = n) (hn : n ≤ 4096) (hn1 : n = n1 + 1) (hI : I = (i : Int)) (hJ : J = ((i + 1 : Nat) : Int)) (hi : i < n) :
    Calls Try.prog 18 #[.slice (some ⟨b, off, none⟩) n cap, .int .i64 I, .int .i64 J] w fun e w' => e = .returned (.slice (some ⟨b, off, none⟩) n1 cap) ∧ Own w' 3 (some ⟨b, off, none⟩) n1 cap ((es.eraseIdx i).flatMap Ent.cells) ∧ Chg (· = b) w w' := by
  subst hI; subst hJ
  have hcap := h.le
  have hmax := h.max
  have HO := Lib.hid (show Own w.drew 3 (some ⟨b, off, none⟩) i cap ((es.take i).flatMap Ent.cells) by rw [← flat_take]; exact (h.cut (by omega) (by omega) (Nat.le_refl _)).drew)
  obtain ⟨A, hA⟩ : ∃ A : Option Addr, (if cap = i + 1 then some (⟨b, off, none⟩ : Addr) else some ⟨b, off + (i + 1) * 3, none⟩) = A := ⟨_, rfl⟩
  have HR := Lib.hid (show Row w.drew A _ by rw [← hA]; exact (flat_row h hes (i + 1)).drew)
  have HL := Lib.hid (show ((es.drop (i + 1)).flatMap Ent.cells).length = (n - (i + 1)) * 3 by rw [flat_len, List.length_drop, hes])
  have HN := Lib.hid (show i + (n - (i + 1)) = n1 by omega)
  have HE := Lib.hid (show (es.take i).flatMap Ent.cells ++ (es.drop (i + 1)).flatMap Ent.cells = (es.eraseIdx i).flatMap Ent.cells by rw [← List.flatMap_append, List.eraseIdx_eq_take_drop_succ])
  have HD := Lib.hid hn1
  clear h hes hn1
  have hic : i ≤ cap := by omega
  have hic' : (i : Int) ≤ (cap : Int) := by omega
  have hp0 : (0 : Int) ≤ (i : Int) + 1 := by omega
  have hp1 : (i : Int) + 1 ≤ (n : Int) := by omega
  have hp2 : ((i : Int) + 1).toNat = i + 1 := by omega
  have hp3 : (n : Int) ≤ (cap : Int) := by omega
  have hroom : i + (n - (i + 1)) ≤ cap := by omega
  have hbytes : (i + (n - (i + 1))) * 40 ≤ 140737488355328 := by omega
  go_enter Try.func18, Try.ntmps18
  go_wp2
  go_region_law (refine step_append_in rfl (.tmp 22) (.tmp 25) el_msg rfl (c := cap - (i + 1)) ?hs ?hx HO.out HL.out HR.out (flat_one _) hroom hbytes ?_; (case hs => simp [Act.eval, Act.put]); (case hx => simp [Act.eval, Act.put]); rw [HN.out, HE.out]; intro w2 hx hch; have H2 := Lib.hid (And.intro hx hch); clear hx hch)
  have g1 : (n1 : Int) ≤ (n : Int) := by have := HD.out; omega
  have g2 : ¬ cap = n1 := by have := HD.out; omega
  have g3 : n1 ≤ n := by have := HD.out; omega
  have g4 : 0 < n - n1 := by have := HD.out; omega
  have g5 : n1 + (n - n1) ≤ cap := by have := HD.out; omega
  go_wp2_with (refine wpList_clear' rfl (.tmp 31) el_msg rfl rfl rfl H2.out.1 g4 g5 zero_one ?_; intro w3 hx hch; have H3 := Lib.hid (And.intro hx hch); clear hx hch)
  all_goals (
    go_ret
    exact ⟨rfl, H3.out.1, ((Chg.refl (· = b) w).drew.trans H2.out.2 (by rintro i _ ⟨a, ha, e⟩; cases ha; exact e.symm)).trans H3.out.2 (fun _ _ h => h)⟩)
theorem split_at {es : List Ent} {i : Nat} {e : Ent} (h : es[i]? = some e) : ∃ l1 l2, es = l1 ++ e :: l2 ∧ es.eraseIdx i = l1 ++ l2 := by
  obtain ⟨hlt, he⟩ := List.getElem?_eq_some_iff.1 h
  refine ⟨es.take i, es.drop (i + 1), ?_, List.eraseIdx_eq_take_drop_succ ..⟩
  rw [← he, ← List.drop_eq_getElem_cons hlt, List.take_append_drop]
/-- A message less. -/
theorem MsgsAt.erase {w w' : World} {b off n n1 cap i : Nat} {es : List Ent} {e : Ent} (h : MsgsAt w (some ⟨b, off, none⟩) n cap es) (he : es[i]? = some e) (ho : Own w' 3 (some ⟨b, off, none⟩) n1 cap ((es.eraseIdx i).flatMap Ent.cells)) (hc : Chg (· = b) w w') :
    MsgsAt w' (some ⟨b, off, none⟩) n1 cap (es.eraseIdx i) ∧ e.At w' ∧ (∀ a, e.bo = some a → a.block ∈ netF (some ⟨b, off, none⟩) es ∧ a.block ∉ netF (some ⟨b, off, none⟩) (es.eraseIdx i)) ∧ (∀ k ∈ netF (some ⟨b, off, none⟩) (es.eraseIdx i), k ∈ netF (some ⟨b, off, none⟩) es) := by
  have hnd := h.nodup
  have hent : ∀ x ∈ es, x.At w' := by
    intro x hx
    refine (h.ent x hx).keep hc (fun a ha e => ?_)
    rw [netF, List.nodup_append] at hnd
    exact hnd.2.2 b (by simp [blk]) a.block (List.mem_flatMap.2 ⟨x, hx, mem_blk.2 ⟨a, ha, rfl⟩⟩) e.symm
  obtain ⟨l1, l2, h1, h2⟩ := split_at he
  rw [h2] at ho ⊢
  subst h1
  simp only [netF, List.flatMap_append, List.flatMap_cons] at hnd ⊢
  rw [List.nodup_append, List.nodup_append, List.nodup_append] at hnd
  obtain ⟨n1', ⟨n2, ⟨n3, n4, n5⟩, n6⟩, n7⟩ := hnd
  refine ⟨⟨ho, fun x hx => hent x (by simp at hx ⊢; rcases hx with h | h <;> simp [h]), ?_⟩, hent e (by simp), ?_, ?_⟩
  · simp only [netF, List.flatMap_append]
    rw [List.nodup_append, List.nodup_append]
    refine ⟨n1', ⟨n2, n4, fun x hx y hy => n6 x hx y (List.mem_append_right _ hy)⟩, fun x hx y hy => n7 x hx y ?_⟩
    rcases List.mem_append.1 hy with h | h
    · exact List.mem_append_left _ h
    · exact List.mem_append_right _ (List.mem_append_right _ h)
  · intro a ha
    have hm : a.block ∈ blk e.bo := mem_blk.2 ⟨a, ha, rfl⟩
    refine ⟨List.mem_append_right _ (List.mem_append_right _ (List.mem_append_left _ hm)), fun hk => ?_⟩
    rcases List.mem_append.1 hk with hk | hk
    · exact n7 _ hk _ (List.mem_append_right _ (List.mem_append_left _ hm)) rfl
    · rcases List.mem_append.1 hk with hk | hk
      · exact n6 _ hk _ (List.mem_append_left _ hm) rfl
      · exact n5 _ hm _ hk rfl
  · intro k hk
    rcases List.mem_append.1 hk with hk | hk
    · exact List.mem_append_left _ hk
    · rcases List.mem_append.1 hk with hk | hk
      · exact List.mem_append_right _ (List.mem_append_left _ hk)
      · exact List.mem_append_right _ (List.mem_append_right _ (List.mem_append_right _ hk))
theorem take_nil (I : Int) (w : World) :
    Calls Try.prog 13 #[.pointer none, .int .i64 I] w fun e w' => e = .returned (.tuple #[.agg #[.int .i64 0, .int .i64 0, .slice none 0 0], .int .i64 1]) ∧ Below w.heap.size w w' := by
  go_enter Try.func13, Try.ntmps13
  go_wp2
  obtain ⟨z0, z1, z2, _⟩ := cells3 (heap_top w (.cells #[.int .i64 0, .int .i64 0, .slice none 0 0] 29))
  refine bodyPost_ret (v := .tuple #[.agg #[.int .i64 0, .int .i64 0, .slice none 0 0], .int .i64 1]) (by simp [results, Try.results13, go_sem, z0, z1, z2]) rfl ?_
  exact ⟨rfl, (Below.refl _ w).alloc (Nat.le_refl _) _⟩
theorem take_out (p : Nat) (ms : List Msg) (F : List Nat) (I : Int) (w : World) (h : NetAt w p ms F) (hI : I < 0 ∨ (ms.length : Int) ≤ I) :
    Calls Try.prog 13 #[.pointer (some ⟨p, 0, none⟩), .int .i64 I] w fun e w' => e = .returned (.tuple #[.agg #[.int .i64 0, .int .i64 0, .slice none 0 0], .int .i64 2]) ∧ Below w.heap.size w w' := by
  obtain ⟨lo, k, cap, es, h1, h2, rfl, h4, rfl⟩ := h
  obtain ⟨z1, z2⟩ := cells1 (heap_new (o := .cells #[.int .i64 0, .int .i64 0, .slice none 0 0] 29) h1)
  have hk : (es.map Ent.m).length = k := by rw [List.length_map, h2.len]
  clear h1 h2 h4
  rw [hk] at hI
  clear hk
  by_cases h0 : I < 0
  · clear hI
    go_enter Try.func13, Try.ntmps13
    go_wp2
    obtain ⟨y0, y1, y2, _⟩ := cells3 (heap_top w (.cells #[.int .i64 0, .int .i64 0, .slice none 0 0] 29))
    refine bodyPost_ret (v := .tuple #[.agg #[.int .i64 0, .int .i64 0, .slice none 0 0], .int .i64 2]) (by simp [results, Try.results13, go_sem, y0, y1, y2]) rfl ?_
    exact ⟨rfl, (Below.refl _ w).alloc (Nat.le_refl _) _⟩
  · have h0' : 0 ≤ I := by omega
    have hI' : (k : Int) ≤ I := by omega
    clear hI
    go_enter Try.func13, Try.ntmps13
    go_wp2
    obtain ⟨y0, y1, y2, _⟩ := cells3 (heap_top w (.cells #[.int .i64 0, .int .i64 0, .slice none 0 0] 29))
    refine bodyPost_ret (v := .tuple #[.agg #[.int .i64 0, .int .i64 0, .slice none 0 0], .int .i64 2]) (by simp [results, Try.results13, go_sem, y0, y1, y2]) rfl ?_
    exact ⟨rfl, (Below.refl _ w).alloc (Nat.le_refl _) _⟩
theorem erase_map (es : List Ent) (i : Nat) : (es.eraseIdx i).map Ent.m = (es.map Ent.m).eraseIdx i := by
  rw [List.eraseIdx_eq_take_drop_succ, List.eraseIdx_eq_take_drop_succ, List.map_append, List.map_take, List.map_drop]
/-- What is so behind a message's taking. -/
def TookAt (w : World) (p : Nat) (ms : List Msg) (F : List Nat) (i : Nat) (m : Msg) (v : Value) (w' : World) : Prop :=
  ∃ bo c F', v = .agg #[.int .i64 m.frm, .int .i64 m.dst, .slice bo m.body.length c] ∧ NetAt w' p (ms.eraseIdx i) F' ∧ Own w' 1 bo m.body.length c (m.body.map cb) ∧ (∀ a, bo = some a → a.block ∈ F ∧ a.block ∉ F') ∧ (∀ k ∈ F', k ∈ F) ∧ Chg (· ∈ F) w w'
theorem take_end {w w2 w9 : World} {p b off n n1 cap i R : Nat} {es : List Ent} {e : Ent} {v : Value} (hw2 : Chg (· = b) w w2) (h1 : w.heap[p]? = some (.cells #[.slice (some ⟨b, off, none⟩) n cap] 51 (0, 0))) (h : MsgsAt w (some ⟨b, off, none⟩) n cap es) (he : es[i]? = some e) (hp : p ∉ netF (some ⟨b, off, none⟩) es)
    (ho : Own w2 3 (some ⟨b, off, none⟩) n1 cap ((es.eraseIdx i).flatMap Ent.cells)) (hv : v = .slice (some ⟨b, off, none⟩) n1 cap) (hR : w.heap.size ≤ R) (h9 : Chg (· = R) (w2.setCell ⟨p, 0, none⟩ v) w9) :
    TookAt w p (es.map Ent.m) (p :: netF (some ⟨b, off, none⟩) es) i e.m e.val w9 := by
  subst hv
  have hb : b ∈ netF (some ⟨b, off, none⟩) es := List.mem_append_left _ (mem_blk.2 ⟨_, rfl, rfl⟩)
  obtain ⟨hm, hea, hen, hsub⟩ := h.erase he ho hw2
  have hp2 := heap_set (hw2.heap h1 (fun e => hp (e ▸ hb))) 0 (.slice (some ⟨b, off, none⟩) n1 cap)
  have hpF : p ∉ netF (some ⟨b, off, none⟩) (es.eraseIdx i) := fun h => hp (hsub p h)
  have hpl := heap_lt h1
  have hc9 : Chg (fun k => k = p ∨ k = R) w2 w9 := ((Chg.one w2 p 0 _).to (S' := fun k => k = p ∨ k = R) (fun _ h => Or.inl h)).trans h9 (fun _ _ h => Or.inr h)
  refine ⟨e.bo, e.cap, p :: netF (some ⟨b, off, none⟩) (es.eraseIdx i), rfl, ⟨some ⟨b, off, none⟩, n1, cap, es.eraseIdx i, h9.heap hp2 (by omega), hm.keep hc9 ?_, erase_map .., hpF, rfl⟩, hea.keep hc9 ?_, ?_, ?_, ?_⟩
  · rintro k hk (rfl | rfl)
    · exact hpF hk
    · have := h.lt _ (hsub _ hk); omega
  · rintro a ha (e | e)
    · exact hp (e ▸ (hen a ha).1)
    · have := h.lt _ (hen a ha).1; omega
  · intro a ha
    refine ⟨List.mem_cons_of_mem _ (hen a ha).1, fun hk => ?_⟩
    rcases List.mem_cons.1 hk with hk | hk
    · exact hp (hk ▸ (hen a ha).1)
    · exact (hen a ha).2 hk
  · intro k hk
    rcases List.mem_cons.1 hk with rfl | hk
    · simp
    · exact List.mem_cons_of_mem _ (hsub k hk)
  · refine (hw2.to (S' := (· ∈ p :: netF (some ⟨b, off, none⟩) es)) (fun k hk => List.mem_cons_of_mem _ (hk ▸ hb))).trans hc9 ?_
    rintro k hk (rfl | rfl)
    · simp
    · omega
set_option maxHeartbeats 1000000 in
set_option maxRecDepth 100000 in
theorem take_any (p : Nat) (ms : List Msg) (F : List Nat) (I : Int) (i : Nat) (m : Msg) (w : World) (h : NetAt w p ms F) (hI : I = (i : Int)) (hi : ms[i]? = some m) (hk : ms.length ≤ 4096) :
    Calls Try.prog 13 #[.pointer (some ⟨p, 0, none⟩), .int .i64 I] w fun e w' => ∃ v, e = .returned (.tuple #[v, .int .i64 0]) ∧ TookAt w p ms F i m v w' := by
  subst hI
  obtain ⟨b, off, n, cap, es, e, h1, h2, h3, h4, h5, h6, h7, c0, c1, c2⟩ := h.open hi
  have hin : i < n := by rw [← h2.len]; exact (List.getElem?_eq_some_iff.1 h4).1
  have hn : n ≤ 4096 := by rw [← h2.len]; rw [← h3, List.length_map] at hk; exact hk
  obtain ⟨n1, hn1⟩ : ∃ n1, n = n1 + 1 := ⟨n - 1, by omega⟩
  have hwa := ((Below.refl _ w).alloc (Nat.le_refl _) (.cells #[.int .i64 0, .int .i64 0, .slice none 0 0] 29)).alloc (by rw [size_alloc]; omega) (.cells #[.int .i64 m.frm, .int .i64 m.dst, .slice e.bo m.body.length e.cap] 29)
  have hC := Chg.of_below hwa (fun _ => False)
  have hR := heap_new (o := .cells #[.int .i64 m.frm, .int .i64 m.dst, .slice e.bo m.body.length e.cap] 29) (heap_top w (.cells #[.int .i64 0, .int .i64 0, .slice none 0 0] 29))
  have hT := heap_top (w.alloc (.cells #[.int .i64 0, .int .i64 0, .slice none 0 0] 29)) (.cells #[.int .i64 m.frm, .int .i64 m.dst, .slice e.bo m.body.length e.cap] 29)
  rw [size_alloc] at hT
  have hpa := hC.heap h1 (fun h => h)
  have hma := h2.keep hC (fun _ _ h => h)
  have HD := Lib.hid (delete_any b off n n1 cap es (i : Int) ((i : Int) + 1) i _ hma.own h2.len hn hn1 rfl (by omega) hin)
  obtain ⟨z1, z2⟩ := cells1 hpa
  have hC1 := (Chg.refl (fun _ => False) w).alloc (.cells #[.int .i64 0, .int .i64 0, .slice none 0 0] 29)
  obtain ⟨y1, y2⟩ := cells1 (hC1.heap h1 (fun h => h))
  have d0 := hC1.cell c0 (fun h => h)
  have d1 := hC1.cell c1 (fun h => h)
  have d2 := hC1.cell c2 (fun h => h)
  have hbF : b ∈ netF (some ⟨b, off, none⟩) es := List.mem_append_left _ (mem_blk.2 ⟨_, rfl, rfl⟩)
  have hbl := h2.lt b hbF
  have hbp : p ≠ b := fun e => h6 (e ▸ hbF)
  have hwC : ∀ (S : Nat → Prop), Chg S w _ := fun S => Chg.of_below hwa S
  have hpl := heap_lt h1
  have HF := Lib.hid (And.intro h1 (And.intro h2 (And.intro h4 (And.intro h6 (And.intro h7 (And.intro hpa (And.intro hR (And.intro hT (And.intro h3 (And.intro h5 hwC))))))))))
  clear h h1 h2 h3 h4 h5 h6 h7 hi hwa hC hR hT hpa hma hC1 hwC c0 c1 c2 hk hn1
  have hi0 : (i : Int) < (n : Int) := by omega
  go_enter Try.func13, Try.ntmps13
  go_wp2_with (go_at_call 18; (with_reducible refine HD.out.mono ?_); rintro e1 w2 ⟨rfl, ho, hc⟩; obtain ⟨p0, p1⟩ := cells1 (hc.heap HF.out.2.2.2.2.2.1 hbp); have r1 := hc.heap HF.out.2.2.2.2.2.2.1 (by omega); have r2 := hc.heap HF.out.2.2.2.2.2.2.2.1 (by omega); have s1 := heap_far (a := ⟨p, 0, none⟩) r1 (by simp; omega) (.slice (some ⟨b, off, none⟩) n1 cap); have s2 := heap_far (a := ⟨p, 0, none⟩) r2 (by simp; omega) (.slice (some ⟨b, off, none⟩) n1 cap); obtain ⟨q0, q1, q2, q3⟩ := cells3 s1; obtain ⟨t0, t1, t2, t3⟩ := cells3 s2; have H2 := Lib.hid (And.intro ho (And.intro hc s1)); clear ho hc r1 r2 s1 s2)
  obtain ⟨v0, v1, v2, _⟩ := cells3 (heap_set (heap_set (heap_set H2.out.2.2 0 (.int .i64 m.frm)) 1 (.int .i64 m.dst)) 2 (.slice e.bo m.body.length e.cap))
  refine bodyPost_ret (v := .tuple #[.agg #[.int .i64 m.frm, .int .i64 m.dst, .slice e.bo m.body.length e.cap], .int .i64 0]) (by simp [results, Try.results13, go_sem, v0, v1, v2]) rfl ?_
  obtain ⟨h1, h2, h4, h6, h7, hpa, hR, hT, h3, h5, hwC⟩ := HF.out
  have hch := (((Chg.refl (· = w.heap.size) (w2.setCell ⟨p, 0, none⟩ (.slice (some ⟨b, off, none⟩) n1 cap))).set rfl 0 (.int .i64 m.frm)).set rfl 1 (.int .i64 m.dst)).set rfl 2 (.slice e.bo m.body.length e.cap)
  subst h5 h3 h7
  exact ⟨_, rfl, take_end ((hwC (· = b)).trans H2.out.2.1 (fun _ _ h => h)) h1 h2 h4 h6 H2.out.1 rfl (Nat.le_refl _) hch⟩
end Go.Proofs.Ytgbfpllaianeaaa
