/-
  LAYER 8: a law's own keeper: any command; what is read of it.
-/
import Derived.Test.YtackmgmaippajaaGreatMtK
namespace Go.Proofs.YtackmgmaippajaaGreat
open Go Go.RowKit

/-! ### plain -/
theorem setP_len {l : List Tr.Pl} {t : Tr.Pl} : (Tr.setP l t).length = l.length := by
  have := congrArg List.length (Tr.setP_keys (l := l) (t := t))
  rwa [List.length_map, List.length_map] at this
theorem putP_len {ps : List Tr.Pl} {key : ByteArray} {body : List UInt8} {want own : Nat} : (Tr.putP ps key body want own).1.length ≤ ps.length + 1 := by
  unfold Tr.putP
  split
  · simp
  · split
    · simp
    · split
      · split
        · simp
        · split
          · simp
          · simp only [Tr.insP_len]; omega
      · split
        · simp
        · split
          · simp
          · simp only [setP_len]; omega
theorem drop_len {ps : List Tr.Pl} {own : Nat} : (Tr.dropP ps own).length ≤ ps.length := by
  unfold Tr.dropP
  split
  · exact Nat.le_refl _
  · exact List.length_filter_le ..
theorem dropAll_len : ∀ {ids : List Nat} {ps : List Tr.Pl}, (dropAll ps ids).length ≤ ps.length
  | [], _ => Nat.le_refl _
  | i :: ids, ps => Nat.le_trans (dropAll_len (ids := ids) (ps := Tr.dropP ps i)) drop_len
theorem del_len {ps : List Tr.Pl} {key : ByteArray} {want : Nat} : (Tr.delP ps key want).1.length ≤ ps.length := by
  unfold Tr.delP
  split
  · exact Nat.le_refl _
  · split
    · exact Nat.le_refl _
    · exact (Tr.delK_sub ps key).length_le
theorem doS_len {s : St} {c : Cm} : (doS s c).1.ps.length ≤ s.ps.length + 1 := by
  unfold doS
  split
  · exact Nat.le_succ _
  split
  · exact putP_len
  split
  · exact Nat.le_succ_of_le del_len
  split
  · exact Nat.le_succ _
  split
  · exact Nat.le_succ _
  split
  · dsimp only
    split
    · exact Nat.le_succ_of_le drop_len
    · exact Nat.le_succ _
  split
  · exact Nat.le_succ_of_le dropAll_len
  split
  · exact Nat.le_succ _
  · exact Nat.le_succ _
theorem doS_snap {s : St} {c : Cm} (h : c.kind = 7) : doS s c = (s, 0, [], 0) := by
  simp [doS, late, h]
theorem doK_len {s : St} {d : Jr.Dsk} {c : Cm} : (doK s d c).1.1.ps.length ≤ s.ps.length + 1 := by
  unfold doK
  split
  · exact Nat.le_succ _
  split
  · exact Nat.le_succ _
  split
  · exact Nat.le_succ _
  · exact doS_len
theorem recS_small {s : St} (h : s.Ok) (hl : s.ps.length ≤ 200) : (recS s).length ≤ 1000000 := by
  have h1 : (s.ps.flatMap nodeB).length ≤ s.ps.length * 3928 := flat_le fun x hx => by
    rw [nodeB_len]
    have := (h.key x hx).2
    have := h.fine.body x hx
    omega
  have h2 := sess_le s.l.length h.len
  rw [List.take_length] at h2
  have := Nat.mul_le_mul_right 3928 hl
  simp only [recS, List.length_append, be_length]
  omega
theorem rec_small {s : St} {c : Cm} (h : s.Ok) (hc : c.Fit) (hl : s.ps.length ≤ 200) : (rec (doS s c).1 c).length ≤ 1000000 := by
  by_cases hk : c.kind = 7
  · rw [doS_snap hk]
    unfold rec
    rw [if_pos hk]
    exact recS_small h hl
  · exact recC_small hc hk
/-- A command that is refused, and one that is not. -/
theorem doK_cases (s : St) (d : Jr.Dsk) (c : Cm) : (∃ code : Int, code ≠ 0 ∧ doK s d c = ((s, d), 0, [], code)) ∨ ((doK s d c).2.2.2 = 0 ∧ (doK s d c).1.2 = d.more (rec (doS s c).1 c) ∧ (doK s d c).1.1 = (doS s c).1 ∧ (doK s d c).2.1 = (doS s c).2.1 ∧ (doK s d c).2.2.1 = (doS s c).2.2.1 ∧ (doS s c).2.2.2 = 0) := by
  unfold doK
  split
  · exact .inl ⟨_, by assumption, rfl⟩
  · rename_i h0
    split
    · exact .inl ⟨3, by decide, rfl⟩
    · split
      · exact .inl ⟨8, by decide, rfl⟩
      · exact .inr ⟨rfl, rfl, rfl, rfl, rfl, Decidable.not_not.1 h0⟩
/-! ### a law's own keeper -/
theorem Kp.disk {w0 w : World} {k p n : Nat} {s : St} {d : Jr.Dsk} {B : List Nat} (h : Kp w0 w k p s d B n) : ∃ G, Jr.DiskAt 102 w p d G ∧ ∀ i ∈ G, i ∈ B := by
  obtain ⟨kp, bp, j, F1, F2, G, h1, h2⟩ := h.at_
  exact ⟨G, h1.jour.disk, fun i hi => h2 i (by simp [keepB, hi])⟩
theorem now_in (w0 : World) (k p n : Nat) (s : St) (d : Jr.Dsk) (B : List Nat) (w : World) (h : Kp w0 w k p s d B n) :
    Calls Tryz.prog 16 #[.pointer (some ⟨k, 0, none⟩)] w fun e w' => e = .returned (.int .u64 (s.now : Int)) ∧ w = w' := by
  obtain ⟨kp, bp, j, F1, F2, G, h1, h2⟩ := h.at_
  exact keeper_now k p kp bp j s d F1 F2 G w h1
theorem list_in (w0 : World) (k p n : Nat) (s : St) (d : Jr.Dsk) (B : List Nat) (pre : ByteArray) (w : World) (h : Kp w0 w k p s d B n) :
    Calls Tryz.prog 15 #[.pointer (some ⟨k, 0, none⟩), .string pre] w fun r w' => ∃ xo xc es, r = .returned (.slice xo (Tr.listP s.ps pre).length xc) ∧ Below w.heap.size w w' ∧ Tr.NodesAt w' xo es ∧ es.map Nd.pl = Tr.listP s.ps pre ∧ (∀ a, xo = some a → w.heap.size ≤ a.block) ∧ ∀ e ∈ es, ∀ a, e.vo = some a → w.heap.size ≤ a.block := by
  obtain ⟨kp, bp, j, F1, F2, G, h1, h2⟩ := h.at_
  exact keeper_list k p kp bp j s d F1 F2 G pre w h1 h.fit.fine
theorem bytes_in (w0 : World) (k p n : Nat) (s : St) (d : Jr.Dsk) (B : List Nat) (w : World) (h : Kp w0 w k p s d B n) :
    Calls Tryz.prog 17 #[.pointer (some ⟨p, 0, none⟩)] w fun e w' => ∃ bo cap, e = .returned (.slice bo d.b.length cap) ∧ Below w.heap.size w w' ∧ Own w' 1 bo d.b.length cap (d.b.map cb) ∧ ∀ a, bo = some a → w.heap.size ≤ a.block := by
  obtain ⟨G, h1, h2⟩ := h.disk
  exact Jr.bytes_any p d G w h1
theorem sure_in (w0 : World) (k p n : Nat) (s : St) (d : Jr.Dsk) (B : List Nat) (w : World) (h : Kp w0 w k p s d B n) :
    Calls Tryz.prog 20 #[.pointer (some ⟨p, 0, none⟩)] w fun e w' => e = .returned (.int .i64 (d.sure : Int)) ∧ w = w' := by
  obtain ⟨G, h1, h2⟩ := h.disk
  exact Jr.sure_any p d G w h1
/-- Any command. -/
theorem do_kp (w0 : World) (k p n : Nat) (s s' : St) (d d' : Jr.Dsk) (B : List Nat) (c : Cm) (vo : Option Addr) (vc : Nat) (NI : Int) (N M : Nat) (gone : List Nat) (code : Int) (w : World) (h : Kp w0 w k p s d B n) (hn : n < 1000000) (hl : s.ps.length ≤ 200) (hc : c.Fit) (hv : Bts w vo c.val)
    (hr : doK s d c = ((s', d'), N, gone, code)) (hN : NI = (N : Int)) (hM : gone.length = M) :
    Calls Tryz.prog 18 #[.pointer (some ⟨k, 0, none⟩), .agg #[.int .u8 (c.kind : Int), .string c.key, .slice vo c.val.length vc, .int .u64 (c.want : Int), .int .u64 (c.sess : Int), .int .u64 (c.ticks : Int)]] w fun e w' => ∃ uo uc, e = .returned (.tuple #[.int .u64 NI, .slice uo M uc, .int .i64 code]) ∧ Own w' 1 uo M uc (gone.map Ls.idCell) ∧ (∀ a, uo = some a → w.heap.size ≤ a.block) ∧
      ∃ B', Kp w0 w' k p s' d' B' (n + 1) ∧ Chg (· ∈ B) w w' ∧ ∀ i ∈ B', i ∈ B ∨ w.heap.size ≤ i :=
  do_in w0 k p n s s' d d' B c c.key vo c.val.length vc _ _ _ _ NI N M gone code w h (by omega) hc hv (RecOk.any ((h.fit.did (by omega) hc).ok) hc) (rec_small h.fit.ok hc hl) rfl rfl rfl rfl rfl rfl hr hN hM
theorem Kp.more' {w0 w w' : World} {k p n : Nat} {s : St} {d : Jr.Dsk} {B : List Nat} (h : Kp w0 w k p s d B n) (m : Nat) (hm : n ≤ m) : Kp w0 w k p s d B m :=
  ⟨h.at_, h.new, h.lt, h.below, ⟨h.fit.fine, h.fit.nice.up hm, h.fit.now, h.fit.last, h.fit.len, h.fit.ids, h.fit.ends⟩⟩
theorem long_c (c : Cm) (vo : Option Addr) (vc : Nat) (w : World) :
    Calls Tryz.prog 8 #[.agg #[.int .u8 (c.kind : Int), .string c.key, .slice vo c.val.length vc, .int .u64 (c.want : Int), .int .u64 (c.sess : Int), .int .u64 (c.ticks : Int)]] w fun e w' => e = .returned (.bool c.long) ∧ Below w.heap.size w w' := long_any c vo vc w
theorem cmd_c (c : Cm) (vo : Option Addr) (vc : Nat) (w : World) (hk : c.kind < 256) (hl : c.key.size ≤ 5000) :
    Calls Tryz.prog 9 #[.agg #[.int .u8 (c.kind : Int), .string c.key, .slice vo c.val.length vc, .int .u64 (c.want : Int), .int .u64 (c.sess : Int), .int .u64 (c.ticks : Int)]] w fun e w' => ∃ (q : Nat) (K : ByteArray), e = .returned (.agg #[.int .u8 (q : Int), .string K, .slice vo c.val.length vc, .int .u64 (c.want : Int), .int .u64 (c.sess : Int), .int .u64 (c.ticks : Int)]) ∧ q < 9 ∧ K.size ≤ 5000 ∧ Below w.heap.size w w' := by
  refine (cmd_any c vo vc w hk).mono ?_
  rintro e w' ⟨K, rfl, hK, hb⟩
  exact ⟨c.kind % 9, K, rfl, by omega, by omega, hb⟩
theorem Cm.long_false {c : Cm} (h : c.long = false) : c.key.size ≤ 5000 ∧ c.val.length ≤ 5000 := by
  simp [Cm.long] at h
  omega
theorem six_set {w : World} {T : Nat} {x0 x1 x2 x3 x4 x5 a b c d e f : Value} {t : TypeId} (h : w.heap[T]? = some (.cells #[x0, x1, x2, x3, x4, x5] t (0, 0))) :
    ((((((w.setCell ⟨T, 0, none⟩ a).setCell ⟨T, 1, none⟩ b).setCell ⟨T, 2, none⟩ c).setCell ⟨T, 3, none⟩ d).setCell ⟨T, 4, none⟩ e).setCell ⟨T, 5, none⟩ f).heap[T]? = some (.cells #[a, b, c, d, e, f] t (0, 0)) := by
  have g := heap_set (heap_set (heap_set (heap_set (heap_set (heap_set h 0 a) 1 b) 2 c) 3 d) 4 e) 5 f
  simp only [List.setIfInBounds_toArray, List.set_cons_zero, List.set_cons_succ] at g
  exact g
theorem six_chg (w : World) (T : Nat) (a b c d e f : Value) : Chg (· = T) w ((((((w.setCell ⟨T, 0, none⟩ a).setCell ⟨T, 1, none⟩ b).setCell ⟨T, 2, none⟩ c).setCell ⟨T, 3, none⟩ d).setCell ⟨T, 4, none⟩ e).setCell ⟨T, 5, none⟩ f) :=
  ((((((Chg.refl (· = T) w).set (p := T) rfl 0 _).set (p := T) rfl 1 _).set (p := T) rfl 2 _).set (p := T) rfl 3 _).set (p := T) rfl 4 _).set (p := T) rfl 5 _
end Go.Proofs.YtackmgmaippajaaGreat
