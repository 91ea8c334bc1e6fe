/-
  THE LAW JournalOpens OF LAYER 5, WALKED.
-/
import Derived.Test.YtggidllaodloiaaJourR
import Derived.Test.YtggidllaodloiaaJourC
namespace Go.Proofs.Ytggidllaodloiaa
open Go Go.RowKit

theorem wpList_append_g {P : Program} {w : World} {t e : TypeId} {z : Value} {size bytes : Nat} {ops : Array Oper} {rest : List Oper} {o : Oper} {a : Act} {Q : Exit → Act → World → Prop} (hgd : Region.wanted o (yielded ops a.tmps) = true) (s x : Operand) (hE : ElemOf P t e z size bytes)
    (ho : o.op = .call { callee := .builtin .append, args := #[s, x], argTypes := #[t, t] }) {ao bo : Option Addr} {n cap m c : Nat} {cs news : List Value}
    (hs : a.eval s = .slice ao n cap) (hx : a.eval x = .slice bo m c) (hown : Own w size ao n cap cs)
    (hl : news.length = m * size) (hnews : Row w bo news) (h1 : ∀ u ∈ news, u.oneCell' = true) (h63 : n + m ≤ maxLen) (hbytes : (n + m) * bytes ≤ 140737488355328)
    (h : ∀ ao' cap' w', Own w' size ao' (n + m) cap' (cs ++ news) → Chg (fun k => ∃ a, ao = some a ∧ a.block = k) w w' → (ao' = none → ao = none ∧ m = 0) → (∀ a', ao' = some a' → ao = some a' ∨ w.heap.size ≤ a'.block) →
      wpList P ops Q rest (a.put o.dst (.slice ao' (n + m) cap')) w') : wpList P ops Q (o :: rest) a w :=
  wpList_step fun _ hK => by rw [if_pos hgd]; exact wp_append' s x hE ho hs hx hown hl hnews h1 h63 hbytes fun ao' cap' w' h2 h3 h4 h5 => hK _ _ (h ao' cap' w' h2 h3 h4 h5)
theorem append_f (w0 : World) (p : Nat) (d d' : Dsk) (F : List Nat) (bo : Option Addr) (n c : Nat) (ys : List UInt8) (w : World) (h : MineF 50 w0 w p d F) (hl : ys.length = n) (hb : Bts w bo ys) (hd : d.append ys = (0, d')) :
    Calls Try.prog 15 #[.pointer (some ⟨p, 0, none⟩), .slice bo n c] w fun e w' => e = .returned (.int .i64 0) ∧ ∃ F', MineF 50 w0 w' p d' F' := by
  refine (append_any p d F bo n c ys w h.is hl hb).mono ?_
  rintro e w' ⟨rfl, hn⟩
  rw [hd] at hn ⊢
  obtain ⟨F', h1, _, _⟩ := h.step hn
  exact ⟨rfl, F', h1⟩
theorem sync_f (w0 : World) (p : Nat) (d : Dsk) (F : List Nat) (w : World) (h : MineF 50 w0 w p d F) :
    Calls Try.prog 16 #[.pointer (some ⟨p, 0, none⟩)] w fun e w' => e = .returned (.tuple #[]) ∧ ∃ F', MineF 50 w0 w' p { d with sure := d.b.length } F' := by
  refine (sync_any p d F w h.is).mono ?_
  rintro e w' ⟨rfl, hn⟩
  obtain ⟨F', h1, _, _⟩ := h.step hn
  exact ⟨rfl, F', h1⟩
theorem conv_four (c1 c2 c3 c4 : Value) (w : World) : (convert 31 31 (.slice (some ⟨w.heap.size, 0, none⟩) 4 4)).run Try.prog (w.alloc (.cells #[c1, c2, c3, c4] 5)) = .ok (.slice (some ⟨w.heap.size, 0, none⟩) 4 4) (w.alloc (.cells #[c1, c2, c3, c4] 5 (4, 5))) :=
  Lib.run_convert_bytes_const w 31 5 #[c1, c2, c3, c4] 4 4 Try.underlying31 Try.underlying5
def moreB : List UInt8 := [109, 111, 114, 101]
theorem sure_w' (p : Nat) (d : Dsk) (F : List Nat) (S : Int) (w : World) (h : DiskAt 50 w p d F) (hS : (d.sure : Int) = S) :
    Calls Try.prog 19 #[.pointer (some ⟨p, 0, none⟩)] w fun e w' => e = .returned (.int .i64 S) ∧ w = w' := by
  subst hS; exact sure_any p d F w h
theorem bytes_m (p : Nat) (d : Dsk) (F : List Nat) (M : Nat) (fl : List UInt8) (w : World) (h : DiskAt 50 w p d F) (hd : d.b = fl) (hM : fl.length = M) :
    Calls Try.prog 18 #[.pointer (some ⟨p, 0, none⟩)] w fun e w' => ∃ bo cap, e = .returned (.slice bo M cap) ∧ Below w.heap.size w w' ∧ Bts w' bo fl := by
  subst hd hM
  refine (bytes_any p d F w h).mono ?_
  rintro e w' ⟨bo, cap, rfl, h1, h2, _⟩
  exact ⟨bo, cap, rfl, h1, h2.bts⟩
/-- The document's list of records, beside a disk. -/
theorem want_beside {w0 w1 w : World} {ao : Option Addr} {b : List UInt8} {oo : Option Addr} {n cap : Nat} {es : List BEnt} {F : List Nat} (hb : Bts w0 ao b) (hz : b = [] → es = []) (hB : Bodies w oo n cap es []) (hoo : ∀ a, oo = some a → w1.heap.size ≤ a.block)
    (hes : ∀ e ∈ es, ∀ a, e.bo = some a → ao.map (·.block) = some a.block) (hF : ∀ k ∈ F, w0.heap.size ≤ k ∧ k < w1.heap.size) : Bodies w oo n cap es F := by
  refine ⟨hB.own, fun a ha hk => by have := hoo a ha; have := (hF _ hk).2; omega, hB.body, fun e he hne a ha => ⟨fun hk => ?_, (hB.out e he hne a ha).2⟩⟩
  have h1 := hes e he a ha
  have h2 := (hF _ hk).1
  cases ao with
  | none => cases h1
  | some a0 =>
    simp at h1
    have h3 : b ≠ [] := by
      intro hb0
      rw [hz hb0] at he
      cases he
    have := bts_lt hb h3 a0 rfl
    omega
theorem one_more (w : World) : Row ((w.alloc (.cells #[.int .u8 109, .int .u8 111, .int .u8 114, .int .u8 101] 5 (4, 5))).alloc (.cells #[.slice (some ⟨w.heap.size, 0, none⟩) 4 4] 31)) (some ⟨w.heap.size + 1, 0, none⟩) [(BEnt.mk moreB (some ⟨w.heap.size, 0, none⟩) 4).cell] := by
  have h := Row.alloc (w.alloc (.cells #[.int .u8 109, .int .u8 111, .int .u8 114, .int .u8 101] 5 (4, 5))) #[.slice (some ⟨w.heap.size, 0, none⟩) 4 4] 31 (0, 0)
  rw [size_alloc] at h
  exact h
theorem more_row {w14 w15 w16 : World} {xo yo o8 : Option Addr} {n7 c8 xc yc : Nat} {es8 : List BEnt} {F : List Nat} {C : Obj} (hB : Bodies w14 o8 n7 c8 es8 F) (hb : Below w14.heap.size w14 w15) (hx : Own w15 1 xo n7 xc (es8.map BEnt.cell)) (hxn : ∀ a, xo = some a → w14.heap.size ≤ a.block)
    (hch : Chg (fun k => ∃ a, xo = some a ∧ a.block = k) ((w15.alloc (.cells #[.int .u8 109, .int .u8 111, .int .u8 114, .int .u8 101] 5 (4, 5))).alloc C) w16) (hy : Own w16 1 yo (n7 + 1) yc (es8.map BEnt.cell ++ [(BEnt.mk moreB (some ⟨w15.heap.size, 0, none⟩) 4).cell])) :
    Below w14.heap.size w14 w16 ∧ BytesRow w16 yo (es8 ++ [⟨moreB, some ⟨w15.heap.size, 0, none⟩, 4⟩]) := by
  have hb2 := hb.alloc hb.size (.cells #[.int .u8 109, .int .u8 111, .int .u8 114, .int .u8 101] 5 (4, 5))
  have hb3 := hb2.alloc hb2.size C
  have h16 : Below w14.heap.size w14 w16 := hb3.trans (hch.below hb3.size (fun k ⟨a, ha, e⟩ => e ▸ hxn a ha))
  refine ⟨h16, by rw [List.map_append]; exact hy.row, fun e he => ?_⟩
  rcases List.mem_append.1 he with he | he
  · exact (hB.body e he).below h16
  · rw [List.mem_singleton] at he
    subst he
    have h1 : Bts (w15.alloc (.cells #[.int .u8 109, .int .u8 111, .int .u8 114, .int .u8 101] 5 (4, 5))) (some ⟨w15.heap.size, 0, none⟩) moreB := Bts.alloc w15 _ _ _ moreB rfl
    exact bts_keep (h1.below ((Below.refl _ _).alloc (Nat.le_refl _) C)) hch (fun _ a ha ⟨b, hb', e⟩ => by cases ha; have := (hx.at_ b hb').2.1; simp at e; omega)
set_option maxHeartbeats 4000000 in
set_option maxRecDepth 100000 in
theorem journalOpens_any (ao : Option Addr) (N c : Nat) (b : List UInt8) (S : Nat) (w : World) (hl : b.length = N) (hb : Bts w ao b) (hNc : N ≤ c) (hm : c ≤ maxLen) (hS : S < 65536) :
    Calls Try.prog 6 #[.slice ao N c, .int .u16 (S : Int)] w fun e w' => e = .returned (.bool true) ∧ Below w.heap.size w w' := by
  have HH := Lib.hid (And.intro hl (And.intro hb hm))
  clear hl hb
  unfold maxLen at hm
  by_cases h6 : 6000 < N
  · clear hS
    go_enter Try.func6, Try.ntmps6
    go_wp2_with (go_at_call 8; (with_reducible refine (awake _).mono ?_); rintro e1 w1 ⟨rfl, hw⟩; have HW := Lib.hid hw; clear hw)
    go_ret
    exact ⟨rfl, HW.out⟩
  · obtain ⟨L, r, hrec⟩ := recs_ex N b (by rw [HH.out.1]; exact Nat.le_refl _)
    have HR := Lib.hid hrec
    clear hrec
    go_enter Try.func6, Try.ntmps6
    go_wp2_with fail
    (with_reducible refine (awake _).mono ?_)
    rintro e0 w1 ⟨rfl, hw⟩
    have HW := Lib.hid hw
    clear hw
    go_wp2_with fail
    (with_reducible refine (new_m w 10000 10000 _ rfl (by decide) HW.out).mono ?_)
    rintro e1 w2 ⟨p, rfl, hm1⟩
    have H1 := Lib.hid hm1
    clear hm1
    have hcv := conv_four
    go_upto_region 6 with fail
    go_cut [7] (fun v wx => wx = w2 ∧ ∃ k : Nat, k ≤ N ∧ v = .int .i64 k)
    case first =>
      go_wp2
      all_goals (go_meet; exact ⟨rfl, _, by omega, rfl⟩)
    case rest =>
    obtain ⟨hwx, k, hkN, rfl⟩ := hcut
    subst hwx
    clear hS
    have hkc : k ≤ c := by omega
    have hki : (k : Int) ≤ (c : Int) := by omega
    have hkj : (k : Int) ≤ (N : Int) := by omega
    have hbl := HH.out.1
    have HK := Lib.hid (And.intro (show (b.take k).length = k by rw [List.length_take]; omega) (And.intro (show (b.drop k).length = N - k by rw [List.length_drop]; omega)
      (And.intro (show Dsk.append ⟨10000, 0, []⟩ (b.take k) = (0, ⟨10000, 0, b.take k⟩) by rw [Dsk.append, if_neg (by simp only [List.length_take, List.length_nil]; omega)]; simp) (show Dsk.append ⟨10000, (b.take k).length, b.take k⟩ (b.drop k) = (0, ⟨10000, (b.take k).length, b⟩) by rw [Dsk.append, if_neg (by simp only [List.length_take, List.length_drop]; omega)]; simp))))
    clear hbl
    go_upto_region 9 with (first
      | (go_at_call 15; (with_reducible refine (append_f w p _ ⟨10000, 0, b.take k⟩ _ ao k c (b.take k) _ H1.out HK.out.1 ((HH.out.2.1.below H1.out.below).take k) HK.out.2.2.1).mono ?_); rintro e3 w3 ⟨rfl, F3, h3⟩; have H3 := Lib.hid h3; clear h3)
      | (go_at_call 16; (with_reducible refine (sync_f w p _ F3 _ H3.out).mono ?_); rintro e4 w4 ⟨rfl, F4, h4⟩; have H4 := Lib.hid (show MineF 50 w w4 p ⟨10000, (b.take k).length, b.take k⟩ F4 from h4); clear h4))
    go_cut [] (fun wx => ∃ F, MineF 50 w wx p ⟨10000, (b.take k).length, b⟩ F)
    case first =>
      by_cases hc : c = k
      · have HZ := Lib.hid (show Bts w4 ao (b.drop k) by rw [List.drop_of_length_le (by rw [HH.out.1]; omega)]; exact Bts.nil _ _)
        have HZ2 := Lib.hid (show (b.drop k).length = 0 by rw [HK.out.2.1]; omega)
        subst hc
        go_wp2_with (go_at_call 15; (with_reducible refine (append_f w p _ ⟨10000, (b.take c).length, b⟩ _ ao 0 0 (b.drop c) _ H4.out HZ2.out HZ.out HK.out.2.2.2).mono ?_); rintro e5 w5 ⟨rfl, F5, h5⟩; have H5 := Lib.hid h5; clear h5)
        go_meet
        exact ⟨F5, H5.out⟩
      · go_wp2_with (go_at_call 15; (with_reducible refine (append_f w p _ ⟨10000, (b.take k).length, b⟩ _ (ao.map (fun x => x.add k)) (N - k) (c - k) (b.drop k) _ H4.out HK.out.2.1 ((HH.out.2.1.below H4.out.below).drop' k) HK.out.2.2.2).mono ?_); rintro e5 w5 ⟨rfl, F5, h5⟩; have H5 := Lib.hid h5; clear h5)
        go_meet
        exact ⟨F5, H5.out⟩
    case rest =>
    obtain ⟨F5, h5⟩ := hcut
    have H5 := Lib.hid h5
    have HBL := Lib.hid (And.intro (show b.length ≤ 1000000 by rw [HH.out.1]; omega) (show N ≤ 1000000 by omega))
    clear h5
    go_wp2_with fail
    (with_reducible refine (open_m w p _ F5 L r _ H5.out HR.out HBL.out.1).mono ?_)
    rintro e7 w7 ⟨j, o7, n7, c7, es7, F7, rfl, g1, g2, g3, _, _, _⟩
    have H7 := Lib.hid (And.intro (show JM w w7 j p ⟨10000, (frames L).length, frames L⟩ F7 from g1) (And.intro g2 g3))
    clear g1 g2 g3
    go_wp2_with fail
    (with_reducible refine (records_any ao N c b L r _ HH.out.1 (HH.out.2.1.below H7.out.1.below) HR.out HBL.out.2 hNc HH.out.2.2).mono ?_)
    rintro e8 w8 ⟨o8, n8, c8, es8, rfl, hb8, g2, g3, g4, g5⟩
    have hfr : (frames L).length ≤ N := by
      have h1 := congrArg List.length HR.out.is
      rw [List.length_append, HH.out.1] at h1
      omega
    have h8 : ∀ (M : List (List UInt8)), 8 * M.length ≤ (frames M).length := by
      intro M
      induction M with
      | nil => simp [frames]
      | cons x M ih => rw [frames_cons, List.length_append, frame_len, List.length_cons]; omega
    have h8L := h8 L
    have hn8 : n8 = L.length := by rw [← g2.len, ← g3, List.length_map]
    have hn7 : n7 = L.length := by rw [← H7.out.2.1.len, ← H7.out.2.2, List.length_map]
    have hW := want_beside HH.out.2.1 (fun hz => by
      have h1 := HH.out.1
      rw [hz, List.length_nil] at h1
      have h2 : L.length = 0 := by omega
      have h3 : es8.length = 0 := by rw [g2.len, hn8]; exact h2
      exact List.eq_nil_of_length_eq_zero h3) g2 g4 g5 (F := F7) (fun i hi => ⟨H7.out.1.own i hi, H7.out.1.j.disk.lt i hi⟩)
    obtain rfl : n7 = n8 := by omega
    have hn7b : n7 ≤ 1000 := by omega
    have H8 := Lib.hid (And.intro (H7.out.1.stays hb8) (And.intro (H7.out.2.1.stays hb8) (And.intro hW (And.intro H7.out.2.2 g3))))
    have HFN := Lib.hid hfr
    clear hb8 g2 g3 g4 g5 hfr h8 h8L hn8 hn7 hW
    obtain ⟨fl, hfl⟩ : ∃ fl, frames L = fl := ⟨_, rfl⟩
    have HFL := Lib.hid hfl
    have h8 := H8.out
    have hfn := HFN.out
    have htk : b.take fl.length = fl := by rw [HR.out.is, ← hfl]; simp
    rw [hfl] at h8 hfn ⊢
    clear H8 HFN hfl
    obtain ⟨M, hM⟩ : ∃ M, fl.length = M := ⟨_, rfl⟩
    rw [hM] at h8 hfn htk ⊢
    have H8 := Lib.hid h8
    have HM := Lib.hid hM
    clear h8 hM
    have hMc : M ≤ c := by omega
    have hMi : (M : Int) ≤ (c : Int) := by omega
    have hM0 : (0 : Int) ≤ (M : Int) := by omega
    have hbt := (HH.out.2.1.below H8.out.1.below).take M
    rw [htk] at hbt
    have HB8 := Lib.hid hbt
    clear hbt htk
    go_wp2
    have ks := str_alike fl
    have hb9 : Below w8.heap.size w8 w8.drew := (Below.refl _ w8).drew
    have H9 := Lib.hid (And.intro (H8.out.1.stays hb9) (And.intro (H8.out.2.1.stays hb9) (And.intro (H8.out.2.2.1.stays hb9) (HB8.out.below hb9))))
    have hE9 := Lib.hid (H8.out.2.2.2.1.trans H8.out.2.2.2.2.symm)
    have k0 := conv_bytes w8.drew Try.underlying31 Try.underlying5 Try.underlying9 ao M c fl HM.out H9.out.2.2.2
    have HN6 := Lib.hid (show n7 ≤ 1000000 by omega)
    have HLL := Lib.hid (And.intro (show L.length = n7 by rw [← H8.out.2.2.2.2, List.length_map, H8.out.2.2.1.len]) H8.out.2.2.2.2)
    clear hb9 HB8
    refine wp_region_held_drew (S := fun wx => (convert 31 9 (.slice ao M c)).run Try.prog wx = .ok (.string (strOf fl)) wx) (by kernel_rfl) k0 (fun hHeld => ?_)
    refine wpAnyH_take (i := 0) (oi := Oper.mk (some 53) (Op.move (Operand.tmp 10)) 25 "law.go:36" #[] none) (v := ?v0) rfl (by kernel_rfl) (by kernel_rfl) (by kernel_rfl) (fun _ _ _ h => h) (Or.inl ⟨by rfl, ?hy0⟩) (by assumption) ?rest0
    case hy0 => (intro w hSw; (try dsimp only at hSw); go_simp; all_goals (with_reducible rfl))
    (try simp only [Act.put, List.setIfInBounds_toArray, List.set_cons_zero, List.set_cons_succ])
    refine wpAnyH_take (i := 1) (oi := Oper.mk (some 54) (Op.binOp BinOp.neq 25 (Operand.tmp 53) (Operand.const (Value.int IntKind.i64 0)) 25) 4 "law.go:36" #[Edge.mk 0 Ground.data] none) (v := ?v1) rfl (by kernel_rfl) (by kernel_rfl) (by kernel_rfl) (fun _ _ _ h => h) (Or.inl ⟨by rfl, ?hy1⟩) (by assumption) ?rest1
    case hy1 => (intro w hSw; (try dsimp only at hSw); go_simp; all_goals (with_reducible rfl))
    (try simp only [Act.put, List.setIfInBounds_toArray, List.set_cons_zero, List.set_cons_succ])
    refine wpAnyH_take (i := 2) (oi := Oper.mk (some 55) (Op.move (Operand.tmp 54)) 4 "law.go:36" #[Edge.mk 1 Ground.data] none) (v := ?v2) rfl (by kernel_rfl) (by kernel_rfl) (by kernel_rfl) (fun _ _ _ h => h) (Or.inl ⟨by rfl, ?hy2⟩) (by assumption) ?rest2
    case hy2 => (intro w hSw; (try dsimp only at hSw); go_simp; all_goals (with_reducible rfl))
    (try simp only [Act.put, List.setIfInBounds_toArray, List.set_cons_zero, List.set_cons_succ])
    refine wpAnyH_take (i := 3) (oi := Oper.mk (some 56) (Op.move (Operand.tmp 8)) 28 "law.go:36" #[Edge.mk 2 Ground.guard] (some (2, false))) (v := ?v3) rfl (by kernel_rfl) (by kernel_rfl) (by kernel_rfl) (fun _ _ _ h => h) (Or.inl ⟨by rfl, ?hy3⟩) (by assumption) ?rest3
    case hy3 => (intro w hSw; (try dsimp only at hSw); go_simp; all_goals (with_reducible rfl))
    (try simp only [Act.put, List.setIfInBounds_toArray, List.set_cons_zero, List.set_cons_succ])
    refine wpAnyH_take (i := 4) (oi := Oper.mk (some 57) (Op.binOp BinOp.eql 28 (Operand.tmp 56) (Operand.const (Value.pointer none)) 28) 4 "law.go:36" #[Edge.mk 3 Ground.data, Edge.mk 2 Ground.guard] (some (2, false))) (v := ?v4) rfl (by kernel_rfl) (by kernel_rfl) (by kernel_rfl) (fun _ _ _ h => h) (Or.inl ⟨by rfl, ?hy4⟩) (by assumption) ?rest4
    case hy4 => (intro w hSw; (try dsimp only at hSw); go_simp; all_goals (with_reducible rfl))
    (try simp only [Act.put, List.setIfInBounds_toArray, List.set_cons_zero, List.set_cons_succ])
    refine wpAnyH_take (i := 5) (oi := Oper.mk (some 58) (Op.pick (Operand.tmp 55) (Operand.const (Value.bool true)) (Operand.tmp 57)) 4 "law.go:36" #[Edge.mk 2 Ground.data, Edge.mk 4 Ground.data] none) (v := ?v5) rfl (by kernel_rfl) (by kernel_rfl) (by kernel_rfl) (fun _ _ _ h => h) (Or.inl ⟨by rfl, ?hy5⟩) (by assumption) ?rest5
    case hy5 => (intro w hSw; (try dsimp only at hSw); go_simp; all_goals (with_reducible rfl))
    (try simp only [Act.put, List.setIfInBounds_toArray, List.set_cons_zero, List.set_cons_succ])
    refine wpAnyH_take (i := 6) (oi := Oper.mk (some 59) (Op.move (Operand.tmp 58)) 4 "law.go:36" #[Edge.mk 5 Ground.data, Edge.mk 2 Ground.chain] none) (v := ?v6) rfl (by kernel_rfl) (by kernel_rfl) (by kernel_rfl) (fun _ _ _ h => h) (Or.inl ⟨by rfl, ?hy6⟩) (by assumption) ?rest6
    case hy6 => (intro w hSw; (try dsimp only at hSw); go_simp; all_goals (with_reducible rfl))
    (try simp only [Act.put, List.setIfInBounds_toArray, List.set_cons_zero, List.set_cons_succ])
    refine wpAnyH_take (i := 7) (oi := Oper.mk (some 60) (Op.move (Operand.tmp 9)) 22 "law.go:36" #[Edge.mk 6 Ground.guard] (some (6, false))) (v := ?v7) rfl (by kernel_rfl) (by kernel_rfl) (by kernel_rfl) (fun _ _ _ h => h) (Or.inl ⟨by rfl, ?hy7⟩) (by assumption) ?rest7
    case hy7 => (intro w hSw; (try dsimp only at hSw); go_simp; all_goals (with_reducible rfl))
    (try simp only [Act.put, List.setIfInBounds_toArray, List.set_cons_zero, List.set_cons_succ])
    refine wpAnyH_take (i := 8) (oi := Oper.mk (some 61) (Op.move (Operand.tmp 11)) 22 "law.go:36" #[Edge.mk 6 Ground.guard] (some (6, false))) (v := ?v8) rfl (by kernel_rfl) (by kernel_rfl) (by kernel_rfl) (fun _ _ _ h => h) (Or.inl ⟨by rfl, ?hy8⟩) (by assumption) ?rest8
    case hy8 => (intro w hSw; (try dsimp only at hSw); go_simp; all_goals (with_reducible rfl))
    (try simp only [Act.put, List.setIfInBounds_toArray, List.set_cons_zero, List.set_cons_succ])
    refine wpAnyH_ready (rs := [9]) (by kernel_rfl) (by simp) ?_
    refine AllReadyH.cons (o := Oper.mk (some 62) (Op.call (Call.mk (Callee.value (Operand.func 14)) #[Operand.tmp 60, Operand.tmp 61] #[22, 22])) 4 "law.go:36" #[Edge.mk 7 Ground.data, Edge.mk 8 Ground.data, Edge.mk 6 Ground.chain, Edge.mk 6 Ground.guard] (some (6, false))) rfl (fun K hK => ?_) AllReadyH.nil
    go_simp
    go_at_call 14
    (with_reducible refine (same_bytes o7 o8 n7 c7 c8 es7 es8 _ H9.out.2.1.row H9.out.2.2.1.row H9.out.2.1.len H9.out.2.2.1.len hE9.out HN6.out).mono ?_)
    rintro e10 w10 ⟨rfl, hb10⟩
    have H10 := Lib.hid (And.intro (H9.out.1.stays hb10) (And.intro (H9.out.2.2.1.stays hb10) (H9.out.2.2.2.below hb10)))
    have k1 := conv_bytes w10 Try.underlying31 Try.underlying5 Try.underlying9 ao M c fl HM.out H10.out.2.2
    clear hb10
    go_wp2_with fail
    refine hK.out _ _ (k1) (fun hHeld => ?_)
    clear hK K
    (try simp only [Act.put, List.setIfInBounds_toArray, List.set_cons_zero, List.set_cons_succ])
    refine wpAnyH_take (i := 10) (oi := Oper.mk (some 63) (Op.unOp UnOp.not 4 (Operand.tmp 62)) 4 "law.go:36" #[Edge.mk 9 Ground.data, Edge.mk 6 Ground.guard] (some (6, false))) (v := ?v10) rfl (by kernel_rfl) (by kernel_rfl) (by kernel_rfl) (fun _ _ _ h => h) (Or.inl ⟨by rfl, ?hy10⟩) (by assumption) ?rest10
    case hy10 => (intro w hSw; (try dsimp only at hSw); go_simp; all_goals (with_reducible rfl))
    (try simp only [Act.put, List.setIfInBounds_toArray, List.set_cons_zero, List.set_cons_succ])
    refine wpAnyH_take (i := 11) (oi := Oper.mk (some 64) (Op.pick (Operand.tmp 59) (Operand.const (Value.bool true)) (Operand.tmp 63)) 4 "law.go:36" #[Edge.mk 6 Ground.data, Edge.mk 10 Ground.data] none) (v := ?v11) rfl (by kernel_rfl) (by kernel_rfl) (by kernel_rfl) (fun _ _ _ h => h) (Or.inl ⟨by rfl, ?hy11⟩) (by assumption) ?rest11
    case hy11 => (intro w hSw; (try dsimp only at hSw); go_simp; all_goals (with_reducible rfl))
    (try simp only [Act.put, List.setIfInBounds_toArray, List.set_cons_zero, List.set_cons_succ])
    refine wpAnyH_take (i := 12) (oi := Oper.mk (some 65) (Op.move (Operand.tmp 64)) 4 "law.go:36" #[Edge.mk 11 Ground.data, Edge.mk 9 Ground.chain] none) (v := ?v12) rfl (by kernel_rfl) (by kernel_rfl) (by kernel_rfl) (fun _ _ _ h => h) (Or.inl ⟨by rfl, ?hy12⟩) (by assumption) ?rest12
    case hy12 => (intro w hSw; (try dsimp only at hSw); go_simp; all_goals (with_reducible rfl))
    (try simp only [Act.put, List.setIfInBounds_toArray, List.set_cons_zero, List.set_cons_succ])
    refine wpAnyH_take (i := 13) (oi := Oper.mk (some 66) (Op.move (Operand.tmp 5)) 24 "law.go:36" #[Edge.mk 12 Ground.guard] (some (12, false))) (v := ?v13) rfl (by kernel_rfl) (by kernel_rfl) (by kernel_rfl) (fun _ _ _ h => h) (Or.inl ⟨by rfl, ?hy13⟩) (by assumption) ?rest13
    case hy13 => (intro w hSw; (try dsimp only at hSw); go_simp; all_goals (with_reducible rfl))
    (try simp only [Act.put, List.setIfInBounds_toArray, List.set_cons_zero, List.set_cons_succ])
    refine wpAnyH_take (i := 16) (oi := Oper.mk (some 69) (Op.move (Operand.tmp 0)) 31 "law.go:36" #[Edge.mk 12 Ground.guard] (some (12, false))) (v := ?v16) rfl (by kernel_rfl) (by kernel_rfl) (by kernel_rfl) (fun _ _ _ h => h) (Or.inl ⟨by rfl, ?hy16⟩) (by assumption) ?rest16
    case hy16 => (intro w hSw; (try dsimp only at hSw); go_simp; all_goals (with_reducible rfl))
    (try simp only [Act.put, List.setIfInBounds_toArray, List.set_cons_zero, List.set_cons_succ])
    refine wpAnyH_take (i := 17) (oi := Oper.mk (some 70) (Op.move (Operand.tmp 12)) 3 "law.go:36" #[Edge.mk 12 Ground.guard] (some (12, false))) (v := ?v17) rfl (by kernel_rfl) (by kernel_rfl) (by kernel_rfl) (fun _ _ _ h => h) (Or.inl ⟨by rfl, ?hy17⟩) (by assumption) ?rest17
    case hy17 => (intro w hSw; (try dsimp only at hSw); go_simp; all_goals (with_reducible rfl))
    (try simp only [Act.put, List.setIfInBounds_toArray, List.set_cons_zero, List.set_cons_succ])
    refine wpAnyH_take (i := 18) (oi := Oper.mk (some 71) (Op.slice 31 (Operand.tmp 69) none (some (Operand.tmp 70)) none) 31 "law.go:36" #[Edge.mk 16 Ground.data, Edge.mk 17 Ground.data, Edge.mk 12 Ground.guard] (some (12, false))) (v := ?v18) rfl (by kernel_rfl) (by kernel_rfl) (by kernel_rfl) (fun _ _ _ h => h) (Or.inl ⟨by rfl, ?hy18⟩) (by assumption) ?rest18
    case hy18 => (intro w hSw; (try dsimp only at hSw); go_simp; all_goals (with_reducible rfl))
    (try simp only [Act.put, List.setIfInBounds_toArray, List.set_cons_zero, List.set_cons_succ])
    refine wpAnyH_take (i := 19) (oi := Oper.mk (some 72) (Op.convert 31 9 (Operand.tmp 71)) 9 "law.go:36" #[Edge.mk 18 Ground.data, Edge.mk 12 Ground.guard] (some (12, false))) (v := ?v19) rfl (by kernel_rfl) (by kernel_rfl) (by kernel_rfl) (fun _ _ _ h => h) (Or.inl ⟨by rfl, ?hy19⟩) (by assumption) ?rest19
    case hy19 => (intro w hSw; (try dsimp only at hSw); go_simp; all_goals (with_reducible rfl))
    (try simp only [Act.put, List.setIfInBounds_toArray, List.set_cons_zero, List.set_cons_succ])
    refine wpAnyH_ready (rs := [14]) (by kernel_rfl) (by simp) ?_
    refine AllReadyH.cons (o := Oper.mk (some 67) (Op.call (Call.mk (Callee.value (Operand.func 18)) #[Operand.tmp 66] #[24])) 31 "law.go:36" #[Edge.mk 13 Ground.data, Edge.mk 12 Ground.chain, Edge.mk 12 Ground.guard] (some (12, false))) rfl (fun K hK => ?_) AllReadyH.nil
    go_simp
    go_at_call 18
    (with_reducible refine (bytes_m p _ F7 M fl _ H10.out.1.j.disk rfl HM.out).mono ?_)
    rintro e11 w11 ⟨bo2, bc2, rfl, hb11, ho11⟩
    have H11 := Lib.hid (And.intro (H10.out.1.stays hb11) (H10.out.2.1.stays hb11))
    have k2 := conv_bytes w11 Try.underlying31 Try.underlying5 Try.underlying9 ao M c fl HM.out (H10.out.2.2.below hb11)
    have k3 := conv_bytes w11 Try.underlying31 Try.underlying5 Try.underlying9 bo2 M bc2 fl HM.out ho11
    clear hb11 ho11
    go_wp2_with fail
    refine hK.out _ _ (k2) (fun hHeld => ?_)
    clear hK K
    (try simp only [Act.put, List.setIfInBounds_toArray, List.set_cons_zero, List.set_cons_succ])
    refine wpAnyH_ready (rs := [15]) (by kernel_rfl) (by simp) ?_
    refine AllReadyH.cons (o := Oper.mk (some 68) (Op.convert 31 9 (Operand.tmp 67)) 9 "law.go:36" #[Edge.mk 14 Ground.data, Edge.mk 12 Ground.guard] (some (12, false))) rfl (fun K hK => ?_) AllReadyH.nil
    go_simp
    refine hK.out _ _ (k2) (fun hHeld => ?_)
    clear hK K
    (try simp only [Act.put, List.setIfInBounds_toArray, List.set_cons_zero, List.set_cons_succ])
    refine wpAnyH_take (i := 20) (oi := Oper.mk (some 73) (Op.binOp BinOp.neq 9 (Operand.tmp 68) (Operand.tmp 72) 9) 4 "law.go:36" #[Edge.mk 15 Ground.data, Edge.mk 19 Ground.data, Edge.mk 12 Ground.guard] (some (12, false))) (v := ?v20) rfl (by kernel_rfl) (by kernel_rfl) (by kernel_rfl) (fun _ _ _ h => h) (Or.inl ⟨by rfl, ?hy20⟩) (by assumption) ?rest20
    case hy20 => (intro w hSw; (try dsimp only at hSw); go_simp; all_goals (with_reducible rfl))
    (try simp only [Act.put, List.setIfInBounds_toArray, List.set_cons_zero, List.set_cons_succ])
    refine wpAnyH_take (i := 21) (oi := Oper.mk (some 74) (Op.pick (Operand.tmp 65) (Operand.const (Value.bool true)) (Operand.tmp 73)) 4 "law.go:36" #[Edge.mk 12 Ground.data, Edge.mk 20 Ground.data] none) (v := ?v21) rfl (by kernel_rfl) (by kernel_rfl) (by kernel_rfl) (fun _ _ _ h => h) (Or.inl ⟨by rfl, ?hy21⟩) (by assumption) ?rest21
    case hy21 => (intro w hSw; (try dsimp only at hSw); go_simp; all_goals (with_reducible rfl))
    (try simp only [Act.put, List.setIfInBounds_toArray, List.set_cons_zero, List.set_cons_succ])
    refine wpAnyH_take (i := 22) (oi := Oper.mk (some 75) (Op.move (Operand.tmp 74)) 4 "law.go:36" #[Edge.mk 21 Ground.data, Edge.mk 14 Ground.chain] none) (v := ?v22) rfl (by kernel_rfl) (by kernel_rfl) (by kernel_rfl) (fun _ _ _ h => h) (Or.inl ⟨by rfl, ?hy22⟩) (by assumption) ?rest22
    case hy22 => (intro w hSw; (try dsimp only at hSw); go_simp; all_goals (with_reducible rfl))
    (try simp only [Act.put, List.setIfInBounds_toArray, List.set_cons_zero, List.set_cons_succ])
    refine wpAnyH_take (i := 23) (oi := Oper.mk (some 76) (Op.move (Operand.tmp 5)) 24 "law.go:36" #[Edge.mk 22 Ground.guard] (some (22, false))) (v := ?v23) rfl (by kernel_rfl) (by kernel_rfl) (by kernel_rfl) (fun _ _ _ h => h) (Or.inl ⟨by rfl, ?hy23⟩) (by assumption) ?rest23
    case hy23 => (intro w hSw; (try dsimp only at hSw); go_simp; all_goals (with_reducible rfl))
    (try simp only [Act.put, List.setIfInBounds_toArray, List.set_cons_zero, List.set_cons_succ])
    refine wpAnyH_take (i := 25) (oi := Oper.mk (some 78) (Op.move (Operand.tmp 12)) 3 "law.go:36" #[Edge.mk 22 Ground.guard] (some (22, false))) (v := ?v25) rfl (by kernel_rfl) (by kernel_rfl) (by kernel_rfl) (fun _ _ _ h => h) (Or.inl ⟨by rfl, ?hy25⟩) (by assumption) ?rest25
    case hy25 => (intro w hSw; (try dsimp only at hSw); go_simp; all_goals (with_reducible rfl))
    (try simp only [Act.put, List.setIfInBounds_toArray, List.set_cons_zero, List.set_cons_succ])
    refine wpAnyH_ready (rs := [24]) (by kernel_rfl) (by simp) ?_
    refine AllReadyH.cons (o := Oper.mk (some 77) (Op.call (Call.mk (Callee.value (Operand.func 19)) #[Operand.tmp 76] #[24])) 3 "law.go:36" #[Edge.mk 23 Ground.data, Edge.mk 22 Ground.chain, Edge.mk 22 Ground.guard] (some (22, false))) rfl (fun K hK => ?_) AllReadyH.nil
    go_simp
    go_at_call 19
    (with_reducible refine (sure_w' p _ F7 (M : Int) _ H11.out.1.j.disk rfl).mono ?_)
    rintro e12 w12 ⟨rfl, rfl⟩
    go_wp2_with fail
    refine hK.out _ _ (k2) (fun hHeld => ?_)
    clear hK K
    (try simp only [Act.put, List.setIfInBounds_toArray, List.set_cons_zero, List.set_cons_succ])
    refine wpAnyH_take (i := 26) (oi := Oper.mk (some 79) (Op.binOp BinOp.neq 3 (Operand.tmp 77) (Operand.tmp 78) 3) 4 "law.go:36" #[Edge.mk 24 Ground.data, Edge.mk 25 Ground.data, Edge.mk 22 Ground.guard] (some (22, false))) (v := ?v26) rfl (by kernel_rfl) (by kernel_rfl) (by kernel_rfl) (fun _ _ _ h => h) (Or.inl ⟨by rfl, ?hy26⟩) (by assumption) ?rest26
    case hy26 => (intro w hSw; (try dsimp only at hSw); go_simp; all_goals (with_reducible rfl))
    (try simp only [Act.put, List.setIfInBounds_toArray, List.set_cons_zero, List.set_cons_succ])
    refine wpAnyH_take (i := 27) (oi := Oper.mk (some 80) (Op.pick (Operand.tmp 75) (Operand.const (Value.bool true)) (Operand.tmp 79)) 4 "law.go:36" #[Edge.mk 22 Ground.data, Edge.mk 26 Ground.data] none) (v := ?v27) rfl (by kernel_rfl) (by kernel_rfl) (by kernel_rfl) (fun _ _ _ h => h) (Or.inl ⟨by rfl, ?hy27⟩) (by assumption) ?rest27
    case hy27 => (intro w hSw; (try dsimp only at hSw); go_simp; all_goals (with_reducible rfl))
    (try simp only [Act.put, List.setIfInBounds_toArray, List.set_cons_zero, List.set_cons_succ])
    refine wpAnyH_done (by kernel_rfl) ?_ _
    all_goals (
      clear k0 k1 k2 k3 ks
      have H12 := Lib.hid H11.out
      clear H11 H10 H9
      have HM4 := Lib.hid (fun w1 : World => Bts.alloc w1 #[.int .u8 109, .int .u8 111, .int .u8 114, .int .u8 101] 5 (4, 5) moreB rfl)
      have HD := Lib.hid (And.intro (show 4 + 8 ≤ (⟨10000, M, fl⟩ : Dsk).room - (⟨10000, M, fl⟩ : Dsk).b.length by dsimp only; rw [HM.out]; omega) (show (⟨10000, (fl ++ frame moreB).length, fl ++ frame moreB⟩ : Dsk) = ⟨10000, (frames (L ++ [moreB])).length, frames (L ++ [moreB])⟩ by rw [frames_app, frames_one, HFL.out]))
      have HRM := Lib.hid (And.intro (show Recs (frames (L ++ [moreB])) (L ++ [moreB]) [] from ⟨by simp, fun x hx => by
          rcases List.mem_append.1 hx with hx | hx
          · exact HR.out.short x hx
          · rw [List.mem_singleton] at hx; subst hx; decide, unf_nil⟩) (show (frames (L ++ [moreB])).length ≤ 1000000 by rw [frames_app, frames_one, List.length_append, frame_len, HFL.out, HM.out]; simp [moreB]; omega))
      go_wp2_with fail
      (with_reducible refine (write_m w j p _ ⟨10000, (frames (L ++ [moreB])).length, frames (L ++ [moreB])⟩ F7 _ 4 4 moreB _ (H12.out.1.alloc _) rfl (HM4.out _) (by decide) HD.out.1 HD.out.2).mono ?_)
      rintro e13 w13 ⟨rfl, F13, g1, g2, g3⟩
      have H13 := Lib.hid (And.intro g1 ((H12.out.2.stays ((Below.refl _ _).alloc (Nat.le_refl _) _)).other g2 g3))
      clear g1 g2 g3
      go_wp2_with fail
      (with_reducible refine (open_m w p _ F13 (L ++ [moreB]) [] _ H13.out.1.mine HRM.out.1 HRM.out.2).mono ?_)
      rintro e14 w14 ⟨j14, o14, n14, c14, es14, F14, rfl, g1, g2, g3, g4, g5, _⟩
      have H14 := Lib.hid (And.intro g1 (And.intro g2 (And.intro g3 (H13.out.2.other g4 g5))))
      clear g1 g2 g3 g4 g5
      have hn14 : n14 = n7 + 1 := by
        have h1 := H14.out.2.1.len
        have h2 := congrArg List.length H14.out.2.2.1
        have h3 := HLL.out.1
        rw [List.length_map, List.length_append, List.length_singleton] at h2
        omega
      subst hn14
      have HLE := Lib.hid (And.intro (show (es8 ++ [(⟨moreB, some ⟨0, 0, none⟩, 4⟩ : BEnt)]).length = n7 + 1 by rw [List.length_append, H14.out.2.2.2.len]; rfl) (And.intro H14.out.2.2.1 (show n7 + 1 ≤ 1000000 by omega)))
      have HLF := Lib.hid (fun w15 : World => And.intro (show (es8 ++ [(⟨moreB, some ⟨w15.heap.size, 0, none⟩, 4⟩ : BEnt)]).length = n7 + 1 by rw [List.length_append, H14.out.2.2.2.len]; rfl) (show es14.map BEnt.bs = (es8 ++ [(⟨moreB, some ⟨w15.heap.size, 0, none⟩, 4⟩ : BEnt)]).map BEnt.bs by rw [H14.out.2.2.1, List.map_append, HLL.out.2]; rfl))
      have HOW := Lib.hid (H14.out.2.2.2.stays ((Below.refl _ w14).alloc (Nat.le_refl _) (.cells #[] 31)))
      go_wp2_with (first
        | (at_builtin; refine wpList_append_g rfl (.tmp 96) (.tmp 97) el_bs rfl rfl rfl (Own.alloc0 _ 1 _ _) (m := n7) (news := es8.map BEnt.cell) (by rw [List.length_map, HOW.out.len, Nat.mul_one]) HOW.out.row.1 (one_ent es8) (by unfold maxLen; omega) (by omega) ?_; intro xo xc w15 hx hch _ hx2; simp only [Nat.zero_add, List.nil_append] at hx; have hb15 := chg_new (Below.refl _ _) hch; have H15 := Lib.hid (And.intro hx (And.intro hb15 (new_blk (Below.refl _ _) hx2))); have HO15 := Lib.hid (hx.keep (((Chg.refl (fun _ => False) w15).alloc (.cells #[.int .u8 109, .int .u8 111, .int .u8 114, .int .u8 101] 5 (4, 5))).alloc (.cells #[.slice (some ⟨w15.heap.size, 0, none⟩) 4 4] 31)) (fun _ _ h => h)); have HR15 := Lib.hid (one_more w15); clear hx hch hx2 hb15)
        | (at_builtin; refine wpList_append_g rfl (.tmp 98) (.tmp 101) el_bs rfl rfl rfl HO15.out (m := 1) (news := [(BEnt.mk moreB (some ⟨w15.heap.size, 0, none⟩) 4).cell]) rfl HR15.out (one_ent [_]) (by unfold maxLen; omega) (by omega) ?_; intro yo yc w16 hx hch _ hx2; have H16 := Lib.hid (more_row H14.out.2.2.2 H15.out.2.1 H15.out.1 H15.out.2.2 hch hx); clear hx hch hx2)
        | (go_at_call 14; (with_reducible refine (same_bytes o14 yo (n7 + 1) c14 yc es14 (es8 ++ [⟨moreB, some ⟨w15.heap.size, 0, none⟩, 4⟩]) _ (H14.out.2.1.row.below H16.out.1) H16.out.2 H14.out.2.1.len (HLF.out w15).1 (HLF.out w15).2 HLE.out.2.2).mono ?_); rintro e17 w17 ⟨rfl, hb17⟩; have H17 := Lib.hid ((H14.out.1.below.trans (H16.out.1.mono H14.out.1.below.size)).trans (hb17.mono (Nat.le_trans H14.out.1.below.size H16.out.1.size))); clear hb17))
      go_ret
      exact ⟨rfl, H17.out⟩)
theorem journalOpens_in (W : World) (base : Nat) (v0 v1 : Value) (k0 : Value.okWide Try.prog W .any base 31 v0) (k1 : Value.okWide Try.prog W .any base 40 v1) (r0 : Rd Try.prog W 31 v0.cells.toList) (r1 : Rd Try.prog W 40 v1.cells.toList) :
    Calls Try.prog 6 #[v0, v1] W fun e w' => e = .returned (.bool true) ∧ Below W.heap.size W w' := by
  obtain ⟨ao, bs, c, rfl, h1, h2, h3⟩ := in_bytesC Try.underlying31 Try.underlying5 (by kernel_rfl) k0 r0
  obtain ⟨S, rfl, hS⟩ := in_u16 Try.underlying40 k1 r1
  exact journalOpens_any ao _ c bs S W rfl h1 h2 h3 hS
end Go.Proofs.Ytggidllaodloiaa
