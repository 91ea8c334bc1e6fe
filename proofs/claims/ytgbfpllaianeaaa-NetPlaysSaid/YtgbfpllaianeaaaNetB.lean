/-
  LAYER 20: Len, Double, All.
-/
import Derived.Test.YtgbfpllaianeaaaNet
namespace Go.Proofs.Ytgbfpllaianeaaa
open Go Go.RowKit

theorem ent_cells {es : List Ent} {i j : Nat} {e : Ent} (h : es[i]? = some e) (hj : j < 3) : (es.flatMap Ent.cells)[i * 3 + j]? = e.cells[j]? := by
  induction es generalizing i with
  | nil => simp at h
  | cons x es ih =>
    rw [List.flatMap_cons]
    have hx : x.cells.length = 3 := rfl
    cases i with
    | zero =>
      simp at h; subst h
      rw [Nat.zero_mul, Nat.zero_add, List.getElem?_append_left (by omega)]
    | succ i =>
      simp at h
      rw [List.getElem?_append_right (by omega), hx, show (i + 1) * 3 + j - 3 = i * 3 + j by omega]
      exact ih h
/-- A message of a list, in its cells. -/
theorem MsgsAt.at {w : World} {lo : Option Addr} {n cap : Nat} {es : List Ent} (h : MsgsAt w lo n cap es) {i : Nat} {e : Ent} (hi : es[i]? = some e) :
    ∃ b off, lo = some ⟨b, off, none⟩ ∧ w.cell? ⟨b, off + i * 3, none⟩ = some (.int .i64 e.m.frm) ∧ w.cell? ⟨b, off + i * 3 + 1, none⟩ = some (.int .i64 e.m.dst) ∧ w.cell? ⟨b, off + i * 3 + 2, none⟩ = some (.slice e.bo e.m.body.length e.cap) := by
  have hne : es.flatMap Ent.cells ≠ [] := by
    intro h0
    have := flat_len es
    rw [h0] at this
    rw [List.length_nil] at this
    rw [List.length_eq_zero_iff.1 (show es.length = 0 by omega)] at hi; simp at hi
  obtain ⟨b, off, rfl, hc⟩ := h.own.row hne
  refine ⟨b, off, rfl, ?_, ?_, ?_⟩
  · have := hc (i * 3 + 0) _ (ent_cells hi (by omega)); simpa using this
  · have := hc (i * 3 + 1) _ (ent_cells hi (by omega)); rwa [← Nat.add_assoc] at this
  · have := hc (i * 3 + 2) _ (ent_cells hi (by omega)); rwa [← Nat.add_assoc] at this
theorem MsgsAt.bts {w : World} {lo : Option Addr} {n cap : Nat} {es : List Ent} (h : MsgsAt w lo n cap es) {i : Nat} {e : Ent} (hi : es[i]? = some e) : Bts w e.bo e.m.body := (h.ent e (List.mem_of_getElem? hi)).bts
theorem len_any (p : Nat) (ms : List Msg) (F : List Nat) (w : World) (h : NetAt w p ms F) :
    Calls Try.prog 14 #[.pointer (some ⟨p, 0, none⟩)] w fun e w' => e = .returned (.int .i64 (ms.length : Int)) ∧ w = w' := by
  obtain ⟨lo, k, cap, es, h1, h2, rfl, h4, rfl⟩ := h
  obtain ⟨z1, z2⟩ := cells1 h1
  have hk : (es.map Ent.m).length = k := by rw [List.length_map, h2.len]
  clear h1 h2 h4
  rw [hk]
  clear hk
  go_enter Try.func14, Try.ntmps14
  go_wp2
  go_ret
  exact ⟨rfl, rfl⟩
theorem len_nil (w : World) :
    Calls Try.prog 14 #[.pointer none] w fun e w' => e = .returned (.int .i64 0) ∧ w = w' := by
  go_enter Try.func14, Try.ntmps14
  go_wp2
  go_ret
  exact ⟨rfl, rfl⟩
theorem double_nil (I : Int) (w : World) :
    Calls Try.prog 11 #[.pointer none, .int .i64 I] w fun e w' => e = .returned (.int .i64 1) ∧ w = w' := by
  go_enter Try.func11, Try.ntmps11
  go_wp2
  go_ret
  exact ⟨rfl, rfl⟩
theorem double_out (p : Nat) (ms : List Msg) (F : List Nat) (I : Int) (w : World) (h : NetAt w p ms F) (hI : I < 0 ∨ (ms.length : Int) ≤ I) :
    Calls Try.prog 11 #[.pointer (some ⟨p, 0, none⟩), .int .i64 I] w fun e w' => e = .returned (.int .i64 2) ∧ w = w' := by
  obtain ⟨lo, k, cap, es, h1, h2, rfl, h4, rfl⟩ := h
  obtain ⟨z1, z2⟩ := cells1 h1
  have hk : (es.map Ent.m).length = k := by rw [List.length_map, h2.len]
  clear h1 h2 h4
  rw [hk] at hI
  clear hk
  by_cases h0 : I < 0
  · clear hI
    go_enter Try.func11, Try.ntmps11
    go_wp2
    go_ret
    exact ⟨rfl, rfl⟩
  · have h0' : 0 ≤ I := by omega
    have hI' : (k : Int) ≤ I := by omega
    clear hI
    go_enter Try.func11, Try.ntmps11
    go_wp2
    go_ret
    exact ⟨rfl, rfl⟩
/-- What a net holds at a place. -/
theorem NetAt.open {w : World} {p : Nat} {ms : List Msg} {F : List Nat} (h : NetAt w p ms F) {i : Nat} {m : Msg} (hi : ms[i]? = some m) :
    ∃ b off n cap es e, w.heap[p]? = some (.cells #[.slice (some ⟨b, off, none⟩) n cap] 51 (0, 0)) ∧ MsgsAt w (some ⟨b, off, none⟩) n cap es ∧ es.map Ent.m = ms ∧ es[i]? = some e ∧ e.m = m ∧ p ∉ netF (some ⟨b, off, none⟩) es ∧ F = p :: netF (some ⟨b, off, none⟩) es ∧
      w.cell? ⟨b, off + i * 3, none⟩ = some (.int .i64 m.frm) ∧ w.cell? ⟨b, off + i * 3 + 1, none⟩ = some (.int .i64 m.dst) ∧ w.cell? ⟨b, off + i * 3 + 2, none⟩ = some (.slice e.bo m.body.length e.cap) := by
  obtain ⟨lo, n, cap, es, h1, h2, rfl, h4, rfl⟩ := h
  rw [List.getElem?_map] at hi
  cases he : es[i]? with
  | none => rw [he] at hi; cases hi
  | some e =>
    rw [he] at hi
    simp at hi
    subst hi
    obtain ⟨b, off, rfl, c0, c1, c2⟩ := h2.at he
    exact ⟨b, off, n, cap, es, e, h1, h2, rfl, he, rfl, h4, rfl, c0, c1, c2⟩
set_option maxHeartbeats 1000000 in
theorem double_walk (p : Nat) (I : Int) (i : Nat) (f t : Int) (n cap l c : Nat) (b off : Nat) (ao : Option Addr) (w : World) (hI : I = (i : Int)) (hi : i < n) (h1 : w.heap[p]? = some (.cells #[.slice (some ⟨b, off, none⟩) n cap] 51 (0, 0)))
    (c0 : w.cell? ⟨b, off + i * 3, none⟩ = some (.int .i64 f)) (c1 : w.cell? ⟨b, off + i * 3 + 1, none⟩ = some (.int .i64 t)) (c2 : w.cell? ⟨b, off + i * 3 + 2, none⟩ = some (.slice ao l c)) (r : Int) (Q : World → Prop)
    (hs : Calls Try.prog 10 #[.pointer (some ⟨p, 0, none⟩), .agg #[.int .i64 f, .int .i64 t, .slice ao l c]] w fun e w' => e = .returned (.int .i64 r) ∧ Q w') :
    Calls Try.prog 11 #[.pointer (some ⟨p, 0, none⟩), .int .i64 I] w fun e w' => e = .returned (.int .i64 r) ∧ Q w' := by
  subst hI
  obtain ⟨z1, z2⟩ := cells1 h1
  have HS := Lib.hid hs
  clear h1 hs
  have hi0 : (i : Int) < n := by omega
  go_enter Try.func11, Try.ntmps11
  go_wp2_with (go_at_call 10; (with_reducible refine HS.out.mono ?_); rintro e w1 ⟨rfl, hq⟩; have HQ := Lib.hid hq; clear hq)
  go_ret
  exact ⟨rfl, HQ.out⟩
theorem double_any (p : Nat) (ms : List Msg) (F : List Nat) (I : Int) (i : Nat) (m : Msg) (w : World) (h : NetAt w p ms F) (hI : I = (i : Int)) (hi : ms[i]? = some m) (hl : m.body.length ≤ 4096) (hm : ms.length < 4096) :
    Calls Try.prog 11 #[.pointer (some ⟨p, 0, none⟩), .int .i64 I] w fun e w' => e = .returned (.int .i64 0) ∧ ∃ F', NetAt w' p (ms ++ [m]) F' ∧ Chg (· ∈ F) w w' ∧ Grew w F F' := by
  obtain ⟨b, off, n, cap, es, e, h1, h2, h3, h4, rfl, h6, h7, c0, c1, c2⟩ := h.open hi
  have hin : i < n := by rw [← h2.len]; exact (List.getElem?_eq_some_iff.1 h4).1
  exact double_walk p I i e.m.frm e.m.dst n cap _ e.cap b off e.bo w hI hin h1 c0 c1 c2 0 _ (send_any p ms F _ _ e.bo _ e.cap _ w hl rfl (h2.bts h4) h hm)
theorem double_full (p : Nat) (ms : List Msg) (F : List Nat) (I : Int) (i : Nat) (m : Msg) (w : World) (h : NetAt w p ms F) (hI : I = (i : Int)) (hi : ms[i]? = some m) (hl : m.body.length ≤ 4096) (hm : 4096 ≤ ms.length) :
    Calls Try.prog 11 #[.pointer (some ⟨p, 0, none⟩), .int .i64 I] w fun e w' => e = .returned (.int .i64 8) ∧ Below w.heap.size w w' := by
  obtain ⟨b, off, n, cap, es, e, h1, h2, h3, h4, rfl, h6, h7, c0, c1, c2⟩ := h.open hi
  have hin : i < n := by rw [← h2.len]; exact (List.getElem?_eq_some_iff.1 h4).1
  exact double_walk p I i e.m.frm e.m.dst n cap _ e.cap b off e.bo w hI hin h1 c0 c1 c2 8 _ (send_full p ms F _ _ e.bo _ e.cap w hl h hm)
theorem all_nil (w : World) :
    Calls Try.prog 12 #[.pointer none] w fun e w' => e = .returned (.slice none 0 0) ∧ w = w' := by
  go_enter Try.func12, Try.ntmps12
  go_wp2
  go_ret
  exact ⟨rfl, rfl⟩
/-- Where a copy stands ahead of the append. -/
theorem all_copied {w wr wa w1 : World} {oo bo : Option Addr} {k oc cc : Nat} {es : List Ent} {f t : Int} {bs : List UInt8} (hw : Below w.heap.size w wr) (hwa : Below wr.heap.size wr wa) (hb : Below wa.heap.size wa w1) (h2 : MsgsAt wr oo k oc es)
    (ho : Own w1 1 bo bs.length cc (bs.map cb)) (hx : ∀ a, bo = some a → wa.heap.size ≤ a.block) :
    MsgsAt (w1.alloc (.cells #[.int .i64 f, .int .i64 t, .slice bo bs.length cc] 29)) oo k oc es ∧
    Below w.heap.size w (w1.alloc (.cells #[.int .i64 f, .int .i64 t, .slice bo bs.length cc] 29)) ∧
    ((∀ a, (Ent.mk ⟨f, t, bs⟩ bo cc).bo = some a → w.heap.size ≤ a.block ∧ a.block ∉ netF oo es) ∧ (Ent.mk ⟨f, t, bs⟩ bo cc).At (w1.alloc (.cells #[.int .i64 f, .int .i64 t, .slice bo bs.length cc] 29))) ∧
    (Ent.mk ⟨f, t, bs⟩ bo cc).cells.length = 1 * 3 ∧
    Row (w1.alloc (.cells #[.int .i64 f, .int .i64 t, .slice bo bs.length cc] 29)) (some ⟨w1.heap.size, 0, none⟩) (Ent.mk ⟨f, t, bs⟩ bo cc).cells := by
  have hb1 : Below wr.heap.size wr w1 := hwa.trans (hb.mono hwa.size)
  have hb2 := hb1.alloc hb1.size (.cells #[.int .i64 f, .int .i64 t, .slice bo bs.length cc] 29)
  have hC := Chg.of_below hb2 (fun _ => False)
  have hN := (Chg.refl (fun _ => False) w1).alloc (.cells #[.int .i64 f, .int .i64 t, .slice bo bs.length cc] 29)
  refine ⟨h2.keep hC (fun _ _ h => h), hw.trans (hb2.mono hw.size), ⟨fun a ha => ⟨Nat.le_trans hw.size (Nat.le_trans hwa.size (hx a ha)), fun hF => ?_⟩, ho.keep hN (fun _ _ h => h)⟩, rfl, Row.alloc w1 _ _ _⟩
  have := h2.lt _ hF
  have := hx a ha
  have := hwa.size
  omega
set_option maxHeartbeats 1000000 in
set_option maxRecDepth 100000 in
theorem all_any (p : Nat) (ms : List Msg) (F : List Nat) (w : World) (h : NetAt w p ms F) (hk : ms.length ≤ 4096) (hB : ∀ m ∈ ms, m.body.length ≤ 4096) :
    Calls Try.prog 12 #[.pointer (some ⟨p, 0, none⟩)] w fun e w' => ∃ oo cap es', e = .returned (.slice oo ms.length cap) ∧ MsgsAt w' oo ms.length cap es' ∧ es'.map Ent.m = ms ∧ (∀ k ∈ netF oo es', w.heap.size ≤ k) ∧ Below w.heap.size w w' := by
  obtain ⟨lo, n, cap, es, h1, h2, h3, h4, hF⟩ := h
  obtain ⟨z1, z2⟩ := cells1 h1
  have hnl : ms.length = n := by rw [← h3, List.length_map, h2.len]
  have HH := Lib.hid (And.intro h2 (And.intro h3 (And.intro hB hnl)))
  rw [hnl] at hk ⊢
  clear h1 h2 h3 h4 hF hB hnl
  go_enter Try.func12, Try.ntmps12
  go_wp2
  go_loopg [3, 13] n (fun g o i wr => ∃ (k : Nat) (oo : Option Addr) (oc : Nat) (es' : List Ent), g + k = n ∧ i = .int .i64 k ∧ o = .slice oo k oc ∧ MsgsAt wr oo k oc es' ∧ es'.map Ent.m = ms.take k ∧ (∀ k ∈ netF oo es', w.heap.size ≤ k) ∧ Below w.heap.size w wr)
  case atStart => exact ⟨0, none, 0, [], by omega, rfl, rfl, ⟨Own.nil' _ _, by simp, by simp [netF, blk]⟩, rfl, by simp [netF, blk], Below.refl _ _⟩
  case round =>
    obtain ⟨k, oo, oc, es', hgk, rfl, rfl, hms, hmm, hnew, hbl⟩ := hrel
    by_cases hlt : k < n
    · have hke : k < es.length := by rw [HH.out.1.len]; exact hlt
      have hek := List.getElem?_eq_getElem hke
      have hmw := HH.out.1.keep (Chg.of_below hbl (fun _ => False)) (fun _ _ h => h)
      obtain ⟨b, off, hlo, c0, c1, c2⟩ := hmw.at hek
      have hbts := hmw.bts hek
      have hmk : ms[k]? = some es[k].m := by rw [← HH.out.2.1, List.getElem?_map, hek]; rfl
      have hl := HH.out.2.2.1 es[k].m (List.mem_of_getElem? hmk)
      generalize es[k] = e at *
      obtain ⟨⟨f, t, bs⟩, bo, bc⟩ := e
      dsimp only at *
      subst hlo
      have hwa := (Below.refl _ wr).alloc (Nat.le_refl _) (.cells #[.int .i64 f, .int .i64 t, .slice bo bs.length bc] 29)
      have HCP := Lib.hid (copied_any f t bo bs.length bc bs (wr.alloc (.cells #[.int .i64 f, .int .i64 t, .slice bo bs.length bc] 29)) rfl (by omega) (hbts.below hwa))
      have HS := Lib.hid (And.intro hms (And.intro hmm (And.intro hnew (And.intro hbl (And.intro hwa hmk)))))
      clear hms hmm hnew hbl hwa hmk hek hmw hbts
      go_wp2_with (first
        | (at_builtin; refine wpList_append' rfl (.tmp 17) (.tmp 20) el_msg rfl rfl rfl H1.out.1.own H1.out.2.2.2.1 H1.out.2.2.2.2 (msg_one ⟨⟨f, t, bs⟩, co, cc⟩) (by unfold maxLen; omega) (by omega) ?_; intro xo xc w2 hx hch _ hx2; have HE := Lib.hid (H1.out.1.snoc hx hch H1.out.2.2.1.2 hx2 (fun a ha => (H1.out.2.2.1.1 a ha).2)); have HC := Lib.hid hch; clear hx hch hx2)
        | (go_at_call 17; (with_reducible refine HCP.out.mono ?_); rintro e1 w1 ⟨co, cc, rfl, hb1, ho1, hx1⟩; have H1 := Lib.hid (all_copied (f := f) (t := t) HS.out.2.2.2.1 HS.out.2.2.2.2.1 hb1 HS.out.1 ho1 hx1); clear hb1 ho1 hx1))
      go_roundg (gk - 1)
      case measure => omega
      case rel =>
        have hcb := HC.out
        refine ⟨k + 1, xo, xc, _, by omega, by go_num, rfl, HE.out.1, ?_, ?_, ?_⟩
        · rw [List.map_append, HS.out.2.1, List.take_add_one, HS.out.2.2.2.2.2]; rfl
        · intro j hj
          rcases HE.out.2 j hj with h | h | h
          · exact HS.out.2.2.1 j h
          · obtain ⟨a, ha, e⟩ := mem_blk.1 h
            exact e ▸ (H1.out.2.2.1.1 a ha).1
          · exact Nat.le_trans H1.out.2.1.size h
        · refine H1.out.2.1.trans (hcb.below H1.out.2.1.size ?_)
          rintro j ⟨a, ha, e⟩
          exact HS.out.2.2.1 j (List.mem_append_left _ (mem_blk.2 ⟨a, ha, e⟩))
    · go_wp2
      go_ret
      obtain rfl : k = n := by omega
      rw [List.take_of_length_le (by rw [HH.out.2.2.2]; exact Nat.le_refl _)] at hmm
      exact ⟨oo, oc, es', rfl, hms, hmm, hnew, hbl⟩
end Go.Proofs.Ytgbfpllaianeaaa
