/-
  THE LAW NetMany OF LAYER 20, WALKED.
-/
import Derived.Test.YtgbfpllaianeaaaNetC
namespace Go.Proofs.Ytgbfpllaianeaaa
open Go Go.RowKit

def many (bs : List UInt8) (k : Nat) : List Msg := (List.range k).map (fun (j : Nat) => ⟨(j : Int), 0, bs⟩)
theorem many_len (bs : List UInt8) (k : Nat) : (many bs k).length = k := by simp [many]
theorem many_succ (bs : List UInt8) (k : Nat) : many bs k ++ [⟨(k : Int), 0, bs⟩] = many bs (k + 1) := by simp [many, List.range_succ]
theorem many_at (bs : List UInt8) (n k : Nat) (h : k < n) : (many bs n)[k]? = some ⟨(k : Int), 0, bs⟩ := by simp [many, h]
theorem many_body (bs : List UInt8) (n : Nat) : ∀ m ∈ many bs n, m.body = bs ∧ m.dst = 0 := by
  intro m hm
  obtain ⟨j, _, rfl⟩ := List.mem_map.1 hm
  exact ⟨rfl, rfl⟩
theorem cut_in (w0 : World) (p : Nat) (ms : List Msg) (F : List Nat) (DT R : Int) (w : World) (h : NetIn w0 w p ms F) (hk : ms.length ≤ 4096) (hR : (ms.length : Int) - ((ms.filter (fun m => !(m.dst == DT))).length : Int) = R) :
    Calls Try.prog 16 #[.pointer (some ⟨p, 0, none⟩), .int .i64 DT] w fun e w' => e = .returned (.int .i64 R) ∧ ∃ F', NetIn w0 w' p (ms.filter (fun m => !(m.dst == DT))) F' := by
  subst hR
  refine (cut_any p ms F DT w h.net hk).mono ?_
  rintro e w' ⟨rfl, F', h1, h2, h3⟩
  exact ⟨rfl, F', h.wrote h1 h2 h3⟩
set_option maxHeartbeats 4000000 in
set_option maxRecDepth 100000 in
theorem netMany_any (ao : Option Addr) (n c : Nat) (bs : List UInt8) (i : Nat) (w : World) (hl : bs.length = n) (hb : Bts w ao bs) (_hn : n ≤ maxLen) (hi : i < 65536) :
    Calls Try.prog 6 #[.slice ao n c, .int .u16 (i : Int)] w fun e w' => e = .returned (.bool true) ∧ Below w.heap.size w w' := by
  have HH := Lib.hid (And.intro hl hb)
  clear hl hb
  by_cases hlt : n ≤ 100
  · have HN1 := Lib.hid (show n ≤ 4096 by omega)
    go_enter Try.func6, Try.ntmps6
    go_wp2_with (first
      | (go_at_call 8; (with_reducible refine (awake _).mono ?_); rintro e1 w1 ⟨rfl, hw⟩; have HW := Lib.hid hw; clear hw)
      | (go_at_call 9; (with_reducible refine (new_in w _ HW.out).mono ?_); rintro e1 w2 ⟨p, rfl, _, hn1⟩; have H1 := Lib.hid hn1; clear hn1))
    go_loopg [19] 4096 (fun g v wr => ∃ (k : Nat) (F : List Nat), g + k = 4096 ∧ v = .int .i64 k ∧ NetIn w wr p (many bs k) F)
    case atStart => exact ⟨0, [p], by omega, rfl, H1.out⟩
    case round =>
      obtain ⟨k, F, hgk, rfl, hnet⟩ := hrel
      have HN := Lib.hid hnet
      clear hnet
      by_cases hk : k < 4096
      · have hki : (k : Int) < 4096 := by omega
        have HL := Lib.hid (show (many bs k).length < 4096 by rw [many_len]; exact hk)
        go_wp2_with (go_at_call 10; (with_reducible refine (send_in w p _ _ (k : Int) 0 ao n c bs _ HN1.out HH.out.1 (HH.out.2.below HN.out.below) HN.out HL.out).mono ?_); rintro e2 w3 ⟨rfl, F2, hn2, _⟩; rw [many_succ] at hn2; have H2 := Lib.hid hn2; clear hn2)
        go_roundg (gk - 1)
        case measure => omega
        case rel => exact ⟨k + 1, F2, by omega, by go_num, H2.out⟩
      · obtain rfl : k = 4096 := by omega
        clear hk hgk
        obtain ⟨q, hq, hql⟩ : ∃ q : Nat, (i : Int) % 4096 = (q : Int) ∧ q < 4096 := ⟨i % 4096, by omega, by omega⟩
        have HQ := Lib.hid (And.intro (many_at bs 4096 q hql) (And.intro (many_len bs 4096) (show bs.length ≤ 4096 by rw [HH.out.1]; omega)))
        have HF := Lib.hid (show 4096 ≤ (many bs 4096).length by rw [many_len]; omega)
        have HF2 := Lib.hid (show (many bs 4096).length ≤ 4096 by rw [many_len]; omega)
        have HZ := Lib.hid (show 0 ≤ 4096 by omega)
        go_wp2_with (first
          | (go_at_call 10; (with_reducible refine (send_full p _ _ 0 0 none 0 0 _ HZ.out HN.out.net HF.out).mono ?_); rintro e3 w3 ⟨rfl, hb3⟩; have H3 := Lib.hid (HN.out.stays hb3); clear hb3)
          | (go_at_call 11; (with_reducible refine (double_full p _ _ (q : Int) q ⟨(q : Int), 0, bs⟩ _ H3.out.net rfl HQ.out.1 HQ.out.2.2 HF.out).mono ?_); rintro e4 w4 ⟨rfl, hb4⟩; have H4 := Lib.hid (H3.out.stays hb4); clear hb4)
          | (go_at_call 13; (with_reducible refine (take_in w p _ _ (q : Int) q ⟨(q : Int), 0, bs⟩ _ H4.out rfl HQ.out.1 HF2.out).mono ?_); rintro e5 w5 ⟨bo, bc, F5, rfl, hn5, ho5, hb5, _⟩; have H5 := Lib.hid (And.intro hn5 (And.intro ho5 hb5)); clear hn5 ho5 hb5))
        obtain ⟨L5, hL5⟩ : ∃ L5, L5 = (many bs 4096).eraseIdx q := ⟨_, rfl⟩
        have h5l : L5.length = 4095 := by rw [hL5, List.length_eraseIdx, many_len, if_pos hql]
        have h5m : ∀ m ∈ L5, m.body = bs ∧ m.dst = 0 := fun m hm => many_body bs 4096 m (by rw [hL5] at hm; exact List.mem_of_mem_eraseIdx hm)
        obtain ⟨m0, hm0⟩ : ∃ m0, L5[0]? = some m0 := ⟨_, List.getElem?_eq_getElem (by omega)⟩
        have hm0b := h5m m0 (List.mem_of_getElem? hm0)
        rw [← hL5] at H5
        have hfil : (L5 ++ [m0]).filter (fun m => !(m.dst == 0)) = [] := by
          rw [List.filter_eq_nil_iff]
          intro m hm
          have : m.dst = 0 := by
            rcases List.mem_append.1 hm with h | h
            · exact (h5m m h).2
            · rw [List.mem_singleton] at h; rw [h]; exact hm0b.2
          simp [this]
        have HD := Lib.hid (And.intro hm0 (And.intro (show m0.body.length ≤ 4096 by rw [hm0b.1]; exact HQ.out.2.2) (And.intro (show L5.length < 4096 by omega) (And.intro (show (4096 : Int) = ((L5 ++ [m0]).length : Int) by rw [List.length_append, h5l]; rfl) (And.intro (show (L5 ++ [m0]).length ≤ 4096 by rw [List.length_append, h5l]; simp) (show ((L5 ++ [m0]).length : Int) - (((L5 ++ [m0]).filter (fun m => !(m.dst == 0))).length : Int) = 4096 by rw [hfil, List.length_append, h5l]; rfl))))))
        clear hL5 h5l h5m hm0 hm0b hfil
        have hbl : bs.length ≤ 4096 := HQ.out.2.2
        have HT := Lib.hid (heap_top w5 (.cells #[.int .i64 (q : Int), .int .i64 0, .slice bo bs.length bc] 29))
        have HTF := Lib.hid (show w5.heap.size ∉ F5 from fun h => Nat.lt_irrefl _ (H5.out.1.net.lt _ h))
        have ks : ((strOf bs).toList == (strOf bs).toList) = true := by simp
        have HKB := Lib.hid (fun w1 hb => conv_bytes w1 Try.underlying22 Try.underlying5 Try.underlying9 ao n c bs HH.out.1 hb)
        go_wp2_with (first
          | (go_at_call 11; (with_reducible refine (double_in w p L5 F5 0 0 m0 _ (H5.out.1.alloc _) rfl HD.out.1 HD.out.2.1 HD.out.2.2.1).mono ?_); rintro e6 w6 ⟨rfl, F6, hn6, hc6⟩; obtain ⟨x0, x1, x2, _⟩ := cells3 (hc6.heap HT.out HTF.out); have ho6 := (H5.out.2.1.keep ((Chg.refl (fun _ => False) w5).alloc (.cells #[.int .i64 (q : Int), .int .i64 0, .slice bo bs.length bc] 29)) (fun _ _ h => h)).keep hc6 (fun a ha => (H5.out.2.2 a ha).2); have kx := conv_bytes w6 Try.underlying22 Try.underlying5 Try.underlying9 bo _ bc bs rfl ho6.bts; have kc := HKB.out _ (HH.out.2.below hn6.below); have H6 := Lib.hid hn6; clear hn6 hc6 ho6)
          | (go_at_call 14; (with_reducible refine (len_in w p _ _ 4096 _ H6.out HD.out.2.2.2.1).mono ?_); rintro e7 w7 ⟨rfl, rfl⟩)
          | (go_at_call 16; (with_reducible refine (cut_in w p _ _ 0 4096 _ H6.out HD.out.2.2.2.2.1 HD.out.2.2.2.2.2).mono ?_); rintro e8 w8 ⟨rfl, F8, hn8⟩; have H8 := Lib.hid hn8; clear hn8))
        go_ret
        exact ⟨rfl, H8.out.below⟩
  · go_enter Try.func6, Try.ntmps6
    go_wp2_with (go_at_call 8; (with_reducible refine (awake _).mono ?_); rintro e1 w1 ⟨rfl, hw⟩; have HW := Lib.hid hw; clear hw)
    go_ret
    exact ⟨rfl, HW.out⟩
theorem netMany_in (W : World) (base : Nat) (v0 v1 : Value) (k0 : Value.okWide Try.prog W .any base 22 v0) (k1 : Value.okWide Try.prog W .any base 38 v1) (r0 : Rd Try.prog W 22 v0.cells.toList) (r1 : Rd Try.prog W 38 v1.cells.toList) :
    Calls Try.prog 6 #[v0, v1] W fun e w' => e = .returned (.bool true) ∧ Below W.heap.size W w' := by
  obtain ⟨ao, bs, c, rfl, h1, h2, h3⟩ := in_bytesC Try.underlying22 Try.underlying5 (by kernel_rfl) k0 r0
  obtain ⟨i, rfl, hi⟩ := in_u16 Try.underlying38 k1 r1
  exact netMany_any ao _ c bs i W rfl h1 (Nat.le_trans h2 h3) hi
end Go.Proofs.Ytgbfpllaianeaaa
