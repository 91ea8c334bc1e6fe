/-
  LAYER 8: two keepers side by side, one of which writes its state down; what stands on its disk.
-/
import Derived.Test.YtackmgmaippajaaGreatMtZb
import Derived.Test.YtackmgmaippajaaGreatMtRa
import Derived.Test.YtackmgmaippajaaGreatMtL
namespace Go.Proofs.YtackmgmaippajaaGreat
open Go Go.RowKit

/-- A disk on which a state's records stand. -/
def SnapI (s : St) (d : Jr.Dsk) (M : Nat) : Prop :=
  ∃ L, d.b = Jr.frames L ∧ d.sure = d.b.length ∧ (∀ x ∈ L, x.length ≤ 4096) ∧ rplAll St.new L = some s ∧ d.b.length ≤ M * 4104 ∧ d.room = 4194304
set_option maxRecDepth 100000 in
theorem SnapI.nil : SnapI St.new ⟨4194304, 0, []⟩ 0 := ⟨[], rfl, rfl, fun _ h => (List.not_mem_nil h).elim, rfl, Nat.zero_le _, rfl⟩
theorem SnapI.up {s : St} {d : Jr.Dsk} {M N : Nat} (h : SnapI s d M) (hm : M ≤ N) : SnapI s d N := by
  obtain ⟨L, h1, h2, h3, h4, h5, h6⟩ := h
  exact ⟨L, h1, h2, h3, h4, Nat.le_trans h5 (Nat.mul_le_mul_right _ hm), h6⟩
/-- What a command answers where there is room; what it leaves. -/
def doR (s : St) (c : Cm) : St × Nat × List Nat × Int :=
  if (doS s c).2.2.2 ≠ 0 then (s, 0, [], (doS s c).2.2.2) else
  if 4096 < (rec (doS s c).1 c).length then (s, 0, [], 3) else ((doS s c).1, (doS s c).2.1, (doS s c).2.2.1, 0)
theorem SnapI.do {s : St} {d : Jr.Dsk} {M : Nat} {c : Cm} (h : SnapI s d M) (hs : s.Ok) (hc : c.Fit) (hM : M ≤ 200) : ∃ d', doK s d c = (((doR s c).1, d'), (doR s c).2) ∧ SnapI (doR s c).1 d' (M + 1) := by
  have hh := h
  obtain ⟨L, h1, h2, h3, h4, h5, h6⟩ := h
  have h7 : 4000000 ≤ d.room := by rw [h6]; decide
  have h8 : d.b.length ≤ 820800 := Nat.le_trans h5 (Nat.mul_le_mul_right 4104 hM)
  by_cases h0 : (doS s c).2.2.2 = 0
  · by_cases hl : 4096 < (rec (doS s c).1 c).length
    · have hR : doR s c = (s, 0, [], 3) := by unfold doR; rw [if_neg (fun h => h h0), if_pos hl]
      have hK : doK s d c = ((s, d), 0, [], 3) := by unfold doK; rw [if_neg (fun h => h h0), if_pos hl]
      rw [hR, hK]
      exact ⟨d, rfl, hh.up (Nat.le_succ M)⟩
    · have hR : doR s c = ((doS s c).1, (doS s c).2.1, (doS s c).2.2.1, 0) := by unfold doR; rw [if_neg (fun h => h h0), if_neg hl]
      have hK : doK s d c = (((doS s c).1, ⟨d.room, (d.b ++ frame (rec (doS s c).1 c)).length, d.b ++ frame (rec (doS s c).1 c)⟩), (doS s c).2.1, (doS s c).2.2.1, 0) := by unfold doK; rw [if_neg (fun h => h h0), if_neg hl, if_neg (by clear h6; omega)]
      rw [hR, hK]
      refine ⟨_, rfl, L ++ [rec (doS s c).1 c], ?_, rfl, fun x hx => ?_, ?_, ?_, h6⟩
      · show d.b ++ frame _ = _
        rw [Jr.frames_app, Jr.frames_one, h1]
      · rcases List.mem_append.1 hx with hx | hx
        · exact h3 x hx
        · rw [List.mem_singleton] at hx; rw [hx]; omega
      · rw [rplAll_app, h4]
        simp only [rplAll, rpl_rec hs hc h0]
      · show (d.b ++ frame _).length ≤ _
        rw [List.length_append, frame_len, Nat.add_mul]
        clear h6 h7 h8
        omega
  · have hR : doR s c = (s, 0, [], (doS s c).2.2.2) := by unfold doR; rw [if_pos h0]
    have hK : doK s d c = ((s, d), 0, [], (doS s c).2.2.2) := by unfold doK; rw [if_pos h0]
    rw [hR, hK]
    exact ⟨d, rfl, hh.up (Nat.le_succ M)⟩
theorem SnapI.recs {s : St} {d : Jr.Dsk} {M : Nat} (h : SnapI s d M) : ∃ L, Jr.Recs d.b L [] ∧ rplAll St.new L = some s := by
  obtain ⟨L, h1, h2, h3, h4, h5, h6⟩ := h
  exact ⟨L, ⟨by rw [h1, List.append_nil], h3, by simp [unf]⟩, h4⟩
theorem SnapI.crash {s : St} {d : Jr.Dsk} {M : Nat} (h : SnapI s d M) : (d.crash 0 0).b = d.b := by
  obtain ⟨L, h1, h2, h3, h4, h5, h6⟩ := h
  have hu : d.upto 0 = d.b.length := by unfold Jr.Dsk.upto; omega
  unfold Jr.Dsk.crash
  show (if _ then _ else _) = _
  rw [if_neg (by omega), hu, List.take_length]
theorem doR_len {s : St} {c : Cm} : (doR s c).1.ps.length ≤ s.ps.length + 1 := by
  unfold doR
  split
  · exact Nat.le_succ _
  split
  · exact Nat.le_succ _
  · exact doS_len
/-- A command that writes the state down. -/
abbrev cS : Cm := ⟨7, ⟨#[]⟩, [], 0, 0, 0⟩
theorem cS_fit : cS.Fit := ⟨by decide, by decide, by decide, by decide, by decide, by decide⟩
theorem doR_snap (s : St) : ∃ code : Int, (code = 0 ∨ code = 3) ∧ doR s cS = (s, 0, [], code) := by
  unfold doR
  rw [doS_snap rfl]
  simp only [ne_eq, not_true_eq_false, if_false]
  split
  · exact ⟨3, .inr rfl, rfl⟩
  · exact ⟨0, .inl rfl, rfl⟩
/-- Two keepers, each in memory of its own. -/
structure Two (w0 w : World) (k p : Nat) (s : St) (d : Jr.Dsk) (B : List Nat) (n : Nat) (k2 p2 : Nat) (s2 : St) (d2 : Jr.Dsk) (B2 : List Nat) (n2 : Nat) : Prop where
  one : Kp w0 w k p s d B n
  two : Kp w0 w k2 p2 s2 d2 B2 n2
  apart : ∀ i ∈ B, i ∉ B2
section
variable {w0 w w' : World} {k p n k2 p2 n2 : Nat} {s s' s2 s2' : St} {d d' d2 d2' : Jr.Dsk} {B B' B2 B2' : List Nat}
theorem Two.stays (h : Two w0 w k p s d B n k2 p2 s2 d2 B2 n2) (hb : Below w.heap.size w w') : Two w0 w' k p s d B n k2 p2 s2 d2 B2 n2 := ⟨h.one.stays hb, h.two.stays hb, h.apart⟩
theorem Two.keep (h : Two w0 w k p s d B n k2 p2 s2 d2 B2 n2) {S : Nat → Prop} (hc : Chg S w w') (h1 : ∀ i ∈ B, ¬ S i) (h2 : ∀ i ∈ B2, ¬ S i) (hb : ∀ i, S i → w0.heap.size ≤ i) : Two w0 w' k p s d B n k2 p2 s2 d2 B2 n2 := ⟨h.one.keep hc h1 hb, h.two.keep hc h2 hb, h.apart⟩
theorem Two.left {n' : Nat} (h : Two w0 w k p s d B n k2 p2 s2 d2 B2 n2) (h1 : Kp w0 w' k p s' d' B' n') (hc : Chg (· ∈ B) w w') (hB : ∀ i ∈ B', i ∈ B ∨ w.heap.size ≤ i) : Two w0 w' k p s' d' B' n' k2 p2 s2 d2 B2 n2 :=
  ⟨h1, h.two.keep hc (fun i hi h2 => h.apart i h2 hi) h.one.new, fun i hi h2 => (hB i hi).elim (fun q => h.apart i q h2) (fun q => by have := h.two.lt i h2; omega)⟩
theorem Two.right {n' : Nat} (h : Two w0 w k p s d B n k2 p2 s2 d2 B2 n2) (h1 : Kp w0 w' k2 p2 s2' d2' B2' n') (hc : Chg (· ∈ B2) w w') (hB : ∀ i ∈ B2', i ∈ B2 ∨ w.heap.size ≤ i) : Two w0 w' k p s d B n k2 p2 s2' d2' B2' n' :=
  ⟨h.one.keep hc (fun i hi h2 => h.apart i hi h2) h.two.new, h1, fun i hi h2 => (hB i h2).elim (fun q => h.apart i hi q) (fun q => by have := h.one.lt i hi; omega)⟩
end
theorem Two.made {w0 w3 w4 w5 : World} {k p n k2 p2 n2 : Nat} {s s2 : St} {d d2 : Jr.Dsk} {B B2 : List Nat} (h1 : Kp w0 w4 k p s d B n) (hB : ∀ i ∈ B, i ∈ [p] ∨ w3.heap.size ≤ i) (hp : p < p2) (hp2 : p2 < w3.heap.size) (hw0 : w0.heap.size ≤ p2) (h2 : Kp w0 w5 k2 p2 s2 d2 B2 n2) (hc : Chg (· ∈ [p2]) w4 w5) (hB2 : ∀ i ∈ B2, i ∈ [p2] ∨ w4.heap.size ≤ i) : Two w0 w5 k p s d B n k2 p2 s2 d2 B2 n2 := by
  have hn : ∀ i ∈ B, i ≠ p2 := fun i hi e => by
    rcases hB i hi with h | h
    · rw [List.mem_singleton] at h; omega
    · omega
  refine ⟨h1.keep hc (fun i hi h => hn i hi (by simpa using h)) (fun i hi => by rw [List.mem_singleton] at hi; omega), h2, fun i hi hi2 => ?_⟩
  rcases hB2 i hi2 with h | h
  · exact hn i hi (by simpa using h)
  · have := h1.lt i hi; omega
theorem Two.more {w0 w : World} {k p n k2 p2 n2 m m2 : Nat} {s s2 : St} {d d2 : Jr.Dsk} {B B2 : List Nat} (h : Two w0 w k p s d B n k2 p2 s2 d2 B2 n2) (h1 : n ≤ m) (h2 : n2 ≤ m2) : Two w0 w k p s d B m k2 p2 s2 d2 B2 m2 := ⟨h.one.more' (w' := w) m h1, h.two.more' (w' := w) m2 h2, h.apart⟩
/-- The state is written down. -/
theorem do_wr (w0 : World) (k p n : Nat) (s : St) (d d' : Jr.Dsk) (B : List Nat) (code : Int) (w : World) (h : Kp w0 w k p s d B n) (hn : n < 1000000) (hl : s.ps.length ≤ 200) (hr : doK s d cS = ((s, d'), 0, [], code)) :
    Calls Tryz.prog 18 #[.pointer (some ⟨k, 0, none⟩), .agg #[.int .u8 7, .string ⟨#[]⟩, .slice none 0 0, .int .u64 0, .int .u64 0, .int .u64 0]] w fun e w' => ∃ uo uc, e = .returned (.tuple #[.int .u64 0, .slice uo 0 uc, .int .i64 code]) ∧
      ∃ B', Kp w0 w' k p s d' B' (n + 1) ∧ Chg (· ∈ B) w w' ∧ ∀ i ∈ B', i ∈ B ∨ w.heap.size ≤ i := by
  refine (do_kp w0 k p n s s d d' B cS none 0 0 0 0 [] code w h hn hl cS_fit (Bts.nil _ _) hr rfl rfl).mono ?_
  rintro e w' ⟨uo, uc, he, _, _, hx⟩
  exact ⟨uo, uc, he, hx⟩
/-- Any command, where there is room. -/
theorem do_room (w0 : World) (k p n : Nat) (s : St) (d d' : Jr.Dsk) (B : List Nat) (c : Cm) (vo : Option Addr) (vc : Nat) (s' : St) (N : Nat) (gone : List Nat) (code : Int) (w : World) (h : Kp w0 w k p s d B n) (hn : n < 1000000) (hl : s.ps.length ≤ 200) (hc : c.Fit) (hv : Bts w vo c.val) (hR : doR s c = (s', N, gone, code)) (hr : doK s d c = (((doR s c).1, d'), (doR s c).2)) :
    Calls Tryz.prog 18 #[.pointer (some ⟨k, 0, none⟩), .agg #[.int .u8 (c.kind : Int), .string c.key, .slice vo c.val.length vc, .int .u64 (c.want : Int), .int .u64 (c.sess : Int), .int .u64 (c.ticks : Int)]] w fun e w' => ∃ uo uc, e = .returned (.tuple #[.int .u64 (N : Int), .slice uo gone.length uc, .int .i64 code]) ∧
      ∃ B', Kp w0 w' k p s' d' B' (n + 1) ∧ Chg (· ∈ B) w w' ∧ ∀ i ∈ B', i ∈ B ∨ w.heap.size ≤ i := by
  rw [hR] at hr
  refine (do_kp w0 k p n s s' d d' B c vo vc (N : Int) N _ gone code w h hn hl hc hv hr rfl rfl).mono ?_
  rintro e w' ⟨uo, uc, he, _, _, hx⟩
  exact ⟨uo, uc, he, hx⟩
/-- A keeper that is opened anew. -/
theorem open_yes {p room : Nat} {F : List Nat} {L : List (List UInt8)} {s : St} {w : World} (h : Calls Tryz.prog 14 #[.pointer (some ⟨p, 0, none⟩)] w (OpenK w p F room L)) (hL : rplAll St.new L = some s) :
    Calls Tryz.prog 14 #[.pointer (some ⟨p, 0, none⟩)] w fun e w' => ∃ k kp bp j F1 F2 G, e = .returned (.tuple #[.pointer (some ⟨k, 0, none⟩), .int .i64 0]) ∧ s.Wk ∧ KeepAt w' k p s ⟨room, (Jr.frames L).length, Jr.frames L⟩ kp bp j F1 F2 G ∧ (∀ i ∈ keepB k j F1 F2 G, i ∈ F ∨ w.heap.size ≤ i) ∧ Chg (· ∈ F) w w' := by
  refine h.mono ?_
  rintro e w' ⟨hc, ⟨hn, _⟩ | ⟨s', k, kp, bp, j, F1, F2, G, hs, hw, he, hk, hi⟩⟩
  · rw [hL] at hn; cases hn
  · rw [hL] at hs; cases hs
    exact ⟨k, kp, bp, j, F1, F2, G, he, hw, hk, hi, hc⟩
/-- A crash that takes nothing, and the keeper that is opened behind it, beside the other one. -/
theorem crash_kp (w0 : World) (k p n : Nat) (s : St) (d : Jr.Dsk) (B : List Nat) (w : World) (h : Kp w0 w k p s d B n) :
    Calls Tryz.prog 21 #[.pointer (some ⟨p, 0, none⟩), .int .i64 0, .int .i64 0] w fun e w' => e = .returned (.tuple #[]) ∧ ∃ F', Jr.DiskAt 102 w' p (d.crash 0 0) F' ∧ Chg (· ∈ B) w w' ∧ ∀ i ∈ F', i ∈ B ∨ w.heap.size ≤ i := by
  obtain ⟨G, h1, h2⟩ := h.disk
  refine (Jr.crash_any p d G 0 0 w h1 (by decide)).mono ?_
  rintro e w' ⟨rfl, F', g1, g2, g3⟩
  exact ⟨rfl, F', g1, g2.to h2, fun i hi => (g3 i hi).imp (h2 i) id⟩
end Go.Proofs.YtackmgmaippajaaGreat
