/-
  LAYER 5: a law's own journal; Awake; the law JournalNil.
-/
import Derived.Test.YtggidllaodloiaaJourO
import Derived.Test.YtggidllaodloiaaJourQ
import Derived.Test.YtggidllaodloiaaDiskM
namespace Go.Proofs.Ytggidllaodloiaa
open Go Go.RowKit

/-- A journal that was made behind w0. -/
structure JM (w0 w : World) (j p : Nat) (d : Dsk) (F : List Nat) : Prop where
  j : JourAt w j p d F
  own : ∀ k ∈ F, w0.heap.size ≤ k
  below : Below w0.heap.size w0 w
section
variable {w0 w w' : World} {j p : Nat} {d d' : Dsk} {F F' : List Nat}
theorem JM.mine (h : JM w0 w j p d F) : MineF 50 w0 w p d F := ⟨h.j.disk, h.own, h.below⟩
theorem JM.stays (h : JM w0 w j p d F) (hb : Below w.heap.size w w') : JM w0 w' j p d F := ⟨h.j.stays hb, h.own, h.below.trans (hb.mono h.below.size)⟩
theorem JM.alloc (h : JM w0 w j p d F) (o : Obj) : JM w0 (w.alloc o) j p d F := h.stays ((Below.refl _ w).alloc (Nat.le_refl _) o)
theorem JM.did (h : JM w0 w j p d F) (hd : DiskDid w p d' F w') : ∃ F', JM w0 w' j p d' F' ∧ Chg (· ∈ F) w w' ∧ Grew w F F' := by
  obtain ⟨F', h1, h2, h3⟩ := hd
  exact ⟨F', ⟨h.j.wrote h1 h2 h3, fun k hk => (h3 k hk).elim (h.own k) (Nat.le_trans h.below.size), h.below.trans (h2.below h.below.size h.own)⟩, h2, h3⟩
/-- Cells of the call's own beside it, written. -/
theorem JM.keep (h : JM w0 w j p d F) {S : Nat → Prop} (hc : Chg S w w') (hF : ∀ k ∈ F, ¬ S k) (hj : ¬ S j) (hb : ∀ k, S k → w0.heap.size ≤ k) : JM w0 w' j p d F :=
  ⟨⟨h.j.disk.keep hc hF, hc.heap h.j.jr hj, h.j.out⟩, h.own, h.below.trans (hc.below h.below.size hb)⟩
end
theorem new_m (w0 : World) (room : Int) (R : Nat) (w : World) (hR : room = (R : Int)) (hr : R ≤ 16777216) (hb : Below w0.heap.size w0 w) :
    Calls Try.prog 9 #[.int .i64 room] w fun e w' => ∃ p, e = .returned (.tuple #[.pointer (some ⟨p, 0, none⟩), .int .i64 0]) ∧ MineF 50 w0 w' p ⟨R, 0, []⟩ [p] := by
  subst hR
  refine (new_any (R : Int) w (by omega)).mono ?_
  rintro e w' ⟨rfl, h1, h2⟩
  exact ⟨_, rfl, h2, fun k hk => by rw [List.mem_singleton] at hk; subst hk; exact hb.size, hb.trans (h1.mono hb.size)⟩
theorem open_m (w0 : World) (p : Nat) (d : Dsk) (F : List Nat) (L : List (List UInt8)) (r : List UInt8) (w : World) (h : MineF 50 w0 w p d F) (hr : Recs d.b L r) (hm : d.b.length ≤ 1000000) :
    Calls Try.prog 10 #[.pointer (some ⟨p, 0, none⟩)] w fun e w' => ∃ j oo n cap es F', e = .returned (.tuple #[.pointer (some ⟨j, 0, none⟩), .slice oo n cap, .int .i64 0]) ∧ JM w0 w' j p ⟨d.room, (frames L).length, frames L⟩ F' ∧ Bodies w' oo n cap es F' ∧ es.map BEnt.bs = L ∧
      Chg (· ∈ F) w w' ∧ Grew w F F' ∧ (∀ a, oo = some a → w.heap.size ≤ a.block) := by
  refine (open_any p d F L r w h.is hr hm).mono ?_
  rintro e w' ⟨j, oo, n, cap, es, F', rfl, h1, h2, h3, h4, h5, h6, h7⟩
  exact ⟨j, oo, n, cap, es, F', rfl, ⟨h1, fun k hk => (h5 k hk).elim (h.own k) (Nat.le_trans h.below.size), h.below.trans (h4.below h.below.size h.own)⟩, h2, h3, h4, h5, h7⟩
theorem write_m (w0 : World) (j p : Nat) (d d' : Dsk) (F : List Nat) (bo : Option Addr) (n c : Nat) (bs : List UInt8) (w : World) (h : JM w0 w j p d F) (hl : bs.length = n) (hb : Bts w bo bs) (hn : n ≤ 4096) (ha : n + 8 ≤ d.room - d.b.length) (hd : (⟨d.room, (d.b ++ frame bs).length, d.b ++ frame bs⟩ : Dsk) = d') :
    Calls Try.prog 11 #[.pointer (some ⟨j, 0, none⟩), .slice bo n c] w fun e w' => e = .returned (.int .i64 0) ∧ ∃ F', JM w0 w' j p d' F' ∧ Chg (· ∈ F) w w' ∧ Grew w F F' := by
  subst hd
  exact (write_ok j p d F bo n c bs w h.j hl hb hn ha).mono fun _ _ ⟨e, hd⟩ => ⟨e, h.did hd⟩
theorem lay_m (w0 : World) (j p : Nat) (d d' : Dsk) (F : List Nat) (bo : Option Addr) (n c : Nat) (bs : List UInt8) (w : World) (h : JM w0 w j p d F) (hl : bs.length = n) (hb : Bts w bo bs) (hn : n ≤ 4096) (ha : n + 8 ≤ d.room - d.b.length) (hd : (⟨d.room, d.sure, d.b ++ frame bs⟩ : Dsk) = d') :
    Calls Try.prog 12 #[.pointer (some ⟨j, 0, none⟩), .slice bo n c] w fun e w' => e = .returned (.int .i64 0) ∧ ∃ F', JM w0 w' j p d' F' ∧ Chg (· ∈ F) w w' ∧ Grew w F F' := by
  subst hd
  exact (lay_any j p d F bo n c bs 0 _ w h.j hl hb hn (by rw [Dsk.append, if_neg (by rw [frame_len]; omega)])).mono fun _ _ ⟨e, hd⟩ => ⟨e, h.did hd⟩
theorem crash_m (w0 : World) (j p : Nat) (d : Dsk) (F : List Nat) (keep bit : Int) (w : World) (h : JM w0 w j p d F) (hk : -9223372036854775808 ≤ keep ∧ keep ≤ 9223372036854775807) :
    Calls Try.prog 13 #[.pointer (some ⟨p, 0, none⟩), .int .i64 keep, .int .i64 bit] w fun e w' => e = .returned (.tuple #[]) ∧ ∃ F', JM w0 w' j p (d.crash keep bit) F' ∧ Chg (· ∈ F) w w' ∧ Grew w F F' :=
  (crash_any p d F keep bit w h.j.disk hk).mono fun _ _ ⟨e, hd⟩ => ⟨e, h.did hd⟩
theorem recs_nil : Recs [] [] [] := ⟨rfl, by simp, unf_nil⟩
theorem conv_const (c : Value) (w : World) : (convert 31 31 (.slice (some ⟨w.heap.size, 0, none⟩) 1 1)).run Try.prog (w.alloc (.cells #[c] 5)) = .ok (.slice (some ⟨w.heap.size, 0, none⟩) 1 1) (w.alloc (.cells #[c] 5 (1, 2))) :=
  Lib.run_convert_bytes_const w 31 5 #[c] 1 1 Try.underlying31 Try.underlying5
theorem awake_dsk : (⟨100, ([] ++ frame [97]).length, [] ++ frame [97]⟩ : Dsk) = ⟨100, 9, frame [97]⟩ := by
  have := frame_len [97]
  simp only [List.nil_append, this]; rfl
theorem awake_crash5 : ∃ r, Recs (Dsk.crash ⟨100, 9, frame [97] ++ frame [98]⟩ 3 (-1)).b [[97]] r ∧ (Dsk.crash ⟨100, 9, frame [97] ++ frame [98]⟩ 3 (-1)).b.length ≤ 1000000 ∧ (Dsk.crash ⟨100, 9, frame [97] ++ frame [98]⟩ 3 (-1)).room = 100 := by
  have h1 := frame_len [97]
  have h2 := frame_len [98]
  simp only [List.length_singleton] at h1 h2
  have hu : Dsk.upto ⟨100, 9, frame [97] ++ frame [98]⟩ 3 = 12 := by
    unfold Dsk.upto
    simp only [List.length_append, h1, h2]
    decide
  have hb : (Dsk.crash ⟨100, 9, frame [97] ++ frame [98]⟩ 3 (-1)).b = frames [[97]] ++ (frame [98]).take 3 := by
    unfold Dsk.crash
    dsimp only
    rw [if_neg (by omega), hu, List.take_append, h1, List.take_of_length_le (by omega), frames_one]
  rw [hb]
  refine ⟨_, ⟨rfl, by simp, ?_⟩, ?_, rfl⟩
  · rw [unf, if_pos (by rw [List.length_take]; omega)]; simp
  · rw [frames_one, List.length_append, List.length_take]; omega
set_option maxHeartbeats 2000000 in
set_option maxRecDepth 100000 in
theorem awake (w : World) : Calls Try.prog 8 #[] w fun e w' => e = .returned (.bool true) ∧ Below w.heap.size w w' := by
  have hcv := conv_const
  obtain ⟨r5, hc5⟩ := awake_crash5
  have HC := Lib.hid hc5
  have HK := Lib.hid (fun (w1 : World) (ao : Option Addr) (c : Nat) (h : Bts w1 ao [97]) => show (convert 31 9 (.slice ao 1 c)).run Try.prog w1 = .ok (.string ⟨#[97]⟩) w1 from conv_bytes w1 Try.underlying31 Try.underlying5 Try.underlying9 ao 1 c [97] rfl h)
  have HA := Lib.hid (fun w1 : World => (Bts.alloc w1 #[.int .u8 97] 5 (1, 2) [97] rfl))
  have HB := Lib.hid (fun w1 : World => (Bts.alloc w1 #[.int .u8 98] 5 (1, 2) [98] rfl))
  have HP := Lib.hid (And.intro (show (3 : Int) ≤ 9223372036854775807 by omega) (show (-9223372036854775808 : Int) ≤ 3 by omega))
  clear hc5
  go_enter Try.func8, Try.ntmps8
  go_wp2_with fail
  (with_reducible refine (new_m w 100 100 _ rfl (by decide) (Below.refl _ _)).mono ?_)
  rintro e1 w1 ⟨p, rfl, hm1⟩
  have H1 := Lib.hid hm1
  clear hm1
  go_wp2_with fail
  (with_reducible refine (open_m w p _ _ [] [] _ H1.out recs_nil (by decide)).mono ?_)
  rintro e2 w2 ⟨j, oo, n, cap, es, F2, rfl, h1, _, _, _, _, _⟩
  have H2 := Lib.hid (show JM w w2 j p ⟨100, 0, []⟩ F2 from h1)
  clear h1
  go_wp2_with fail
  (with_reducible refine (write_m w j p _ ⟨100, 9, frame [97]⟩ F2 _ 1 1 [97] _ (H2.out.alloc _) rfl (HA.out _) (by decide) (by decide) awake_dsk).mono ?_)
  rintro e3 w3 ⟨rfl, F3, h1, _, _⟩
  have H3 := Lib.hid h1
  clear h1
  go_wp2_with fail
  (with_reducible refine (lay_m w j p _ ⟨100, 9, frame [97] ++ frame [98]⟩ F3 _ 1 1 [98] _ (H3.out.alloc _) rfl (HB.out _) (by decide) (by rw [frame_len]; decide) rfl).mono ?_)
  rintro e4 w4 ⟨rfl, F4, h1, _, _⟩
  have H4 := Lib.hid h1
  clear h1
  go_wp2_with fail
  (with_reducible refine (crash_m w j p _ F4 3 (-1) _ H4.out ⟨HP.out.2, HP.out.1⟩).mono ?_)
  rintro e5 w5 ⟨rfl, F5, h1, _, _⟩
  have H5 := Lib.hid h1
  clear h1
  go_wp2_with fail
  (with_reducible refine (open_m w p _ F5 [[97]] r5 _ H5.out.mine HC.out.1 HC.out.2.1).mono ?_)
  rintro e6 w6 ⟨j6, o6, n6, c6, es6, F6, rfl, h1, h2, h3, _, _, _⟩
  have hn6 : n6 = 1 := by rw [← h2.len]; simpa using congrArg List.length h3
  obtain ⟨x, hx⟩ : ∃ x, es6[0]? = some x := ⟨_, List.getElem?_eq_getElem (by rw [h2.len]; omega)⟩
  obtain ⟨ob, ooff, rfl, z0, z1⟩ := h2.row.at hx
  have hxb : x.bs = [97] := by
    have := congrArg (·[0]?) h3
    simpa [List.getElem?_map, hx] using this
  rw [hxb] at z0 z1
  simp only [Nat.add_zero, List.length_singleton] at z0
  have kx := HK.out w6 x.bo x.cap z1
  subst hn6
  have H6 := Lib.hid h1
  clear h1 h2 h3 hx hxb z1
  go_wp2
  go_ret
  exact ⟨rfl, H6.out.below⟩
theorem write_nil (ao : Option Addr) (n c : Nat) (w : World) : Calls Try.prog 11 #[.pointer none, .slice ao n c] w fun e w' => e = .returned (.int .i64 1) ∧ w = w' := by
  go_enter Try.func11, Try.ntmps11
  go_wp2
  go_ret
  exact ⟨rfl, rfl⟩
theorem lay_nil (ao : Option Addr) (n c : Nat) (w : World) : Calls Try.prog 12 #[.pointer none, .slice ao n c] w fun e w' => e = .returned (.int .i64 1) ∧ w = w' := by
  go_enter Try.func12, Try.ntmps12
  go_wp2
  go_ret
  exact ⟨rfl, rfl⟩
theorem journalNil_in (W : World) (base : Nat) (v0 : Value) (k0 : Value.okWide Try.prog W .any base 31 v0) (r0 : Rd Try.prog W 31 v0.cells.toList) :
    Calls Try.prog 4 #[v0] W fun e w' => e = .returned (.bool true) ∧ Below W.heap.size W w' := by
  obtain ⟨ao, bs, c, rfl, _, _, _⟩ := in_bytesC Try.underlying31 Try.underlying5 (by kernel_rfl) k0 r0
  go_enter Try.func4, Try.ntmps4
  go_wp2_with (first
    | (go_at_call 8; (with_reducible refine (awake _).mono ?_); rintro e1 w1 ⟨rfl, hw⟩; have HW := Lib.hid hw; clear hw)
    | (go_at_call 10; (with_reducible refine (open_nil _).mono ?_); rintro e2 w2 ⟨rfl, rfl⟩)
    | (go_at_call 11; (with_reducible refine (write_nil _ _ _ _).mono ?_); rintro e3 w3 ⟨rfl, rfl⟩)
    | (go_at_call 12; (with_reducible refine (lay_nil _ _ _ _).mono ?_); rintro e4 w4 ⟨rfl, rfl⟩))
  go_ret
  exact ⟨rfl, HW.out⟩
end Go.Proofs.Ytggidllaodloiaa
