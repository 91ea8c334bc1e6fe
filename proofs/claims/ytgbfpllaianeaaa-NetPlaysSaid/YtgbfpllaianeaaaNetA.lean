/-
  LAYER 20: a law's own net; Awake.
-/
import Derived.Test.YtgbfpllaianeaaaNetT
import Derived.Test.YtgbfpllaianeaaaStr
namespace Go.Proofs.Ytgbfpllaianeaaa
open Go Go.RowKit

/-- A net that was made behind w0. -/
structure NetIn (w0 w : World) (p : Nat) (ms : List Msg) (F : List Nat) : Prop where
  net : NetAt w p ms F
  new : ∀ k ∈ F, w0.heap.size ≤ k
  below : Below w0.heap.size w0 w
theorem NetIn.keep {w0 w w' : World} {p : Nat} {ms : List Msg} {F : List Nat} (h : NetIn w0 w p ms F) {S : Nat → Prop} (hc : Chg S w w') (hS : ∀ k ∈ F, ¬ S k) (hb : ∀ k, S k → w0.heap.size ≤ k) : NetIn w0 w' p ms F :=
  ⟨h.net.keep hc hS, h.new, h.below.trans (hc.below h.below.size hb)⟩
theorem NetIn.alloc {w0 w : World} {p : Nat} {ms : List Msg} {F : List Nat} (h : NetIn w0 w p ms F) (o : Obj) : NetIn w0 (w.alloc o) p ms F :=
  h.keep ((Chg.refl (fun _ => False) w).alloc o) (fun _ _ h => h) (fun _ h => h.elim)
theorem NetIn.drew {w0 w : World} {p : Nat} {ms : List Msg} {F : List Nat} (h : NetIn w0 w p ms F) : NetIn w0 w.drew p ms F :=
  h.keep ((Chg.refl (fun _ => False) w).drew) (fun _ _ h => h) (fun _ h => h.elim)
theorem NetIn.stays {w0 w w' : World} {p : Nat} {ms : List Msg} {F : List Nat} (h : NetIn w0 w p ms F) (hb : Below w.heap.size w w') : NetIn w0 w' p ms F :=
  h.keep (Chg.of_below hb (fun _ => False)) (fun _ _ h => h) (fun _ h => h.elim)
theorem NetIn.wrote {w0 w w' : World} {p : Nat} {ms ms' : List Msg} {F F' : List Nat} (h : NetIn w0 w p ms F) (hn : NetAt w' p ms' F') (hc : Chg (· ∈ F) w w') (hg : Grew w F F') : NetIn w0 w' p ms' F' :=
  ⟨hn, fun k hk => (hg k hk).elim (h.new k) (Nat.le_trans h.below.size), h.below.trans (hc.below h.below.size h.new)⟩
theorem new_in (w0 w : World) (hb : Below w0.heap.size w0 w) : Calls Try.prog 9 #[] w fun e w' => ∃ p, e = .returned (.pointer (some ⟨p, 0, none⟩)) ∧ Below w.heap.size w w' ∧ NetIn w0 w' p [] [p] := by
  refine (new_any w).mono ?_
  rintro e w' ⟨rfl, h1, h2⟩
  exact ⟨_, rfl, h1, h2, fun k hk => by rw [List.mem_singleton] at hk; subst hk; exact hb.size, hb.trans (h1.mono hb.size)⟩
theorem send_in (w0 : World) (p : Nat) (ms : List Msg) (F : List Nat) (f t : Int) (ao : Option Addr) (n c : Nat) (bs : List UInt8) (w : World) (hn : n ≤ 4096) (hl : bs.length = n) (hb : Bts w ao bs) (h : NetIn w0 w p ms F) (hm : ms.length < 4096) :
    Calls Try.prog 10 #[.pointer (some ⟨p, 0, none⟩), .agg #[.int .i64 f, .int .i64 t, .slice ao n c]] w fun e w' => e = .returned (.int .i64 0) ∧ ∃ F', NetIn w0 w' p (ms ++ [⟨f, t, bs⟩]) F' ∧ Chg (· ∈ F) w w' := by
  refine (send_any p ms F f t ao n c bs w hn hl hb h.net hm).mono ?_
  rintro e w' ⟨rfl, F', h1, h2, h3⟩
  exact ⟨rfl, F', h.wrote h1 h2 h3, h2⟩
theorem double_in (w0 : World) (p : Nat) (ms : List Msg) (F : List Nat) (I : Int) (i : Nat) (m : Msg) (w : World) (h : NetIn w0 w p ms F) (hI : I = (i : Int)) (hi : ms[i]? = some m) (hl : m.body.length ≤ 4096) (hm : ms.length < 4096) :
    Calls Try.prog 11 #[.pointer (some ⟨p, 0, none⟩), .int .i64 I] w fun e w' => e = .returned (.int .i64 0) ∧ ∃ F', NetIn w0 w' p (ms ++ [m]) F' ∧ Chg (· ∈ F) w w' := by
  refine (double_any p ms F I i m w h.net hI hi hl hm).mono ?_
  rintro e w' ⟨rfl, F', h1, h2, h3⟩
  exact ⟨rfl, F', h.wrote h1 h2 h3, h2⟩
theorem take_in (w0 : World) (p : Nat) (ms : List Msg) (F : List Nat) (I : Int) (i : Nat) (m : Msg) (w : World) (h : NetIn w0 w p ms F) (hI : I = (i : Int)) (hi : ms[i]? = some m) (hk : ms.length ≤ 4096) :
    Calls Try.prog 13 #[.pointer (some ⟨p, 0, none⟩), .int .i64 I] w fun e w' => ∃ bo c F', e = .returned (.tuple #[.agg #[.int .i64 m.frm, .int .i64 m.dst, .slice bo m.body.length c], .int .i64 0]) ∧ NetIn w0 w' p (ms.eraseIdx i) F' ∧
      Own w' 1 bo m.body.length c (m.body.map cb) ∧ (∀ a, bo = some a → w0.heap.size ≤ a.block ∧ a.block ∉ F') ∧ Chg (· ∈ F) w w' := by
  refine (take_any p ms F I i m w h.net hI hi hk).mono ?_
  rintro e w' ⟨v, rfl, bo, c, F', rfl, h1, h2, h3, h4, h5⟩
  exact ⟨bo, c, F', rfl, h.wrote h1 h5 (fun k hk => .inl (h4 k hk)), h2, fun a ha => ⟨h.new _ (h3 a ha).1, (h3 a ha).2⟩, h5⟩
theorem len_in (w0 : World) (p : Nat) (ms : List Msg) (F : List Nat) (N : Int) (w : World) (h : NetIn w0 w p ms F) (hN : N = (ms.length : Int)) :
    Calls Try.prog 14 #[.pointer (some ⟨p, 0, none⟩)] w fun e w' => e = .returned (.int .i64 N) ∧ w = w' := by
  subst hN; exact len_any p ms F w h.net
theorem all_in (w0 : World) (p : Nat) (ms : List Msg) (F : List Nat) (N : Nat) (w : World) (h : NetIn w0 w p ms F) (hN : ms.length = N) (hk : N ≤ 4096) (hB : ∀ m ∈ ms, m.body.length ≤ 4096) :
    Calls Try.prog 12 #[.pointer (some ⟨p, 0, none⟩)] w fun e w' => ∃ oo cap es', e = .returned (.slice oo N cap) ∧ MsgsAt w' oo N cap es' ∧ es'.map Ent.m = ms ∧ (∀ k ∈ netF oo es', w.heap.size ≤ k) ∧ Below w.heap.size w w' := by
  subst hN; exact all_any p ms F w h.net hk hB
theorem MsgsAt.at' {w : World} {lo : Option Addr} {n cap : Nat} {es : List Ent} {ms : List Msg} (h : MsgsAt w lo n cap es) {i : Nat} {m : Msg} (hm : es.map Ent.m = ms) (hi : ms[i]? = some m) :
    ∃ b off e, lo = some ⟨b, off, none⟩ ∧ w.cell? ⟨b, off + i * 3, none⟩ = some (.int .i64 m.frm) ∧ w.cell? ⟨b, off + i * 3 + 1, none⟩ = some (.int .i64 m.dst) ∧ w.cell? ⟨b, off + i * 3 + 2, none⟩ = some (.slice e.bo m.body.length e.cap) ∧ Bts w e.bo m.body ∧ es[i]? = some e ∧ e.m = m := by
  subst hm
  rw [List.getElem?_map] at hi
  cases he : es[i]? with
  | none => rw [he] at hi; cases hi
  | some e =>
    rw [he] at hi
    simp at hi
    subst hi
    obtain ⟨b, off, h0, h1, h2, h3⟩ := h.at he
    exact ⟨b, off, e, h0, h1, h2, h3, h.bts he, rfl, rfl⟩
theorem conv_const (c : Value) (w : World) : (convert 22 22 (.slice (some ⟨w.heap.size, 0, none⟩) 1 1)).run Try.prog (w.alloc (.cells #[c] 5)) = .ok (.slice (some ⟨w.heap.size, 0, none⟩) 1 1) (w.alloc (.cells #[c] 5 (1, 2))) :=
  Lib.run_convert_bytes_const w 22 5 #[c] 1 1 Try.underlying22 Try.underlying5
set_option maxHeartbeats 1000000 in
set_option maxRecDepth 100000 in
theorem awake (w : World) : Calls Try.prog 8 #[] w fun e w' => e = .returned (.bool true) ∧ Below w.heap.size w w' := by
  have hs3 : ∀ (w1 : World) (ao : Option Addr) (c : Nat), Bts w1 ao [97] → (convert 22 9 (.slice ao 1 c)).run Try.prog w1 = .ok (.string ⟨#[97]⟩) w1 := fun w1 ao c h => conv_bytes w1 Try.underlying22 Try.underlying5 Try.underlying9 ao 1 c [97] rfl h
  have HS := Lib.hid hs3
  have hcv := conv_const
  have HM := Lib.hid (show ∀ m ∈ ([⟨0, 0, [98]⟩, ⟨0, 0, [97]⟩] : List Msg), m.body.length ≤ 4096 by simp)
  have HK := Lib.hid (show 2 ≤ 4096 by omega)
  have HL := Lib.hid (show ([⟨0, 0, [98]⟩, ⟨0, 0, [97]⟩] : List Msg).length = 2 from rfl)
  have HA := Lib.hid (fun w1 : World => (Bts.alloc w1 #[.int .u8 97] 5 (1, 2) [97] rfl))
  have HB := Lib.hid (fun w1 : World => (Bts.alloc w1 #[.int .u8 98] 5 (1, 2) [98] rfl))
  clear hs3
  go_enter Try.func8, Try.ntmps8
  go_wp2_with (first
    | (go_at_call 9; (with_reducible refine (new_in w _ (Below.refl _ _)).mono ?_); rintro e1 w1 ⟨p, rfl, hb1, hn1⟩; have H1 := Lib.hid hn1; clear hb1 hn1)
    | (go_at_call 10; (with_reducible refine (send_in w p [] _ 0 0 _ 1 1 [97] _ (by decide) rfl (HA.out w1) (H1.out.alloc _) (by decide)).mono ?_); rintro e2 w2 ⟨rfl, F2, hn2, _⟩; have H2 := Lib.hid hn2; clear hn2)
    | (go_at_call 10; (with_reducible refine (send_in w p _ _ 0 0 _ 1 1 [98] _ (by decide) rfl (HB.out w2) (H2.out.alloc _) (by decide)).mono ?_); rintro e3 w3 ⟨rfl, F3, hn3, _⟩; have H3 := Lib.hid hn3; clear hn3)
    | (go_at_call 11; (with_reducible refine (double_in w p _ _ 0 0 ⟨0, 0, [97]⟩ _ H3.out rfl rfl (by decide) (by decide)).mono ?_); rintro e4 w4 ⟨rfl, F4, hn4, _⟩; have H4 := Lib.hid hn4; clear hn4)
    | (go_at_call 13; (with_reducible refine (take_in w p _ _ 0 0 ⟨0, 0, [97]⟩ _ H4.out rfl rfl (by decide)).mono ?_); rintro e5 w5 ⟨bo, c, F5, rfl, hn5, ho5, _, _⟩; have H5 := Lib.hid (And.intro (show NetIn w w5 p [⟨0, 0, [98]⟩, ⟨0, 0, [97]⟩] F5 from hn5) ho5); have kc := HS.out _ bo c (ho5.bts.below ((Below.refl _ _).alloc (Nat.le_refl _) (.cells #[.int .i64 0, .int .i64 0, .slice bo 1 c] 29))); clear hn5 ho5)
    | (go_at_call 14; (with_reducible refine (len_in w p _ _ 2 _ (H5.out.1.alloc _) rfl).mono ?_); rintro e6 w6 ⟨rfl, rfl⟩)
    | (go_at_call 12; (with_reducible refine (all_in w p _ _ 2 _ (H5.out.1.alloc _) HL.out HK.out HM.out).mono ?_); rintro e7 w7 ⟨oo, oc, es, rfl, hm7, hes, hn7, hb7⟩; obtain ⟨b7, off7, e7, rfl, g0, g1, g2, g3, _, _⟩ := hm7.at' (i := 1) (m := ⟨0, 0, [97]⟩) hes rfl; have kd := HS.out w7 e7.bo e7.cap g3; have H7 := Lib.hid hb7; clear hb7 hm7 hes hn7))
  go_ret
  have hB := H5.out.1.alloc (.cells #[.int .i64 0, .int .i64 0, .slice bo 1 c] 29)
  exact ⟨rfl, hB.below.trans (H7.out.mono hB.below.size)⟩
end Go.Proofs.Ytgbfpllaianeaaa
