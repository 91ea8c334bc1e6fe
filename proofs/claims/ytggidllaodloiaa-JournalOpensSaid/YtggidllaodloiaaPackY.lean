/-
  A FRAME WITH A BIT TURNED, AND CUT: plain lists.
-/
import Derived.Test.YtggidllaodloiaaCrcB
import Derived.Test.YtggidllaodloiaaPackJ
namespace Go.Proofs.Ytggidllaodloiaa
open Go Go.RowKit

theorem rep_one_ne (n : Nat) : rep stp n 1#32 ≠ 0#32 := by
  rw [ne_eq, rep_stp_eq0]; decide
theorem crc_flip_ne (l : List UInt8) (n : Nat) (h : n < 8 * l.length) : crc (flip l n) ≠ crc l := by
  intro e
  have e2 : crcs (~~~ 0#32) (flip l n) = crcs (~~~ 0#32) l := by
    unfold crc more at e
    have := congrArg (fun x => ~~~ x) e
    simpa only [BitVec.not_not] using this
  rw [crcs_flip l _ n h] at e2
  refine rep_one_ne (8 * l.length - n) ?_
  have := congrArg (fun x => crcs (~~~ 0#32) l ^^^ x) e2
  simpa only [← BitVec.xor_assoc, BitVec.xor_self, BitVec.zero_xor] using this
theorem flip_ne (l : List UInt8) (n : Nat) (h : n < 8 * l.length) : flip l n ≠ l := fun e => crc_flip_ne l n h (by rw [e])
theorem flip_left (l m : List UInt8) (n : Nat) (h : n < 8 * l.length) : flip (l ++ m) n = flip l n ++ m := by
  unfold flip
  apply List.ext_getElem?
  intro j
  have hn : n / 8 < l.length := by omega
  rw [List.getElem?_modify]
  by_cases hj : j < l.length
  · rw [List.getElem?_append_left hj, List.getElem?_append_left (by simpa using hj), List.getElem?_modify]
  · have hne : ¬ n / 8 = j := by omega
    rw [List.getElem?_append_right (by omega), List.getElem?_append_right (by simp; omega)]
    simp [hne]
theorem flip_right (l m : List UInt8) (n : Nat) (h : 8 * l.length ≤ n) : flip (l ++ m) n = l ++ flip m (n - 8 * l.length) := by
  unfold flip
  have hd : (n - 8 * l.length) / 8 = n / 8 - l.length := by omega
  have hm : (n - 8 * l.length) % 8 = n % 8 := by omega
  rw [hd, hm]
  apply List.ext_getElem?
  intro j
  rw [List.getElem?_modify]
  by_cases hj : j < l.length
  · have hne : ¬ n / 8 = j := by omega
    rw [List.getElem?_append_left hj, List.getElem?_append_left hj]
    simp [hne]
  · rw [List.getElem?_append_right (by omega), List.getElem?_append_right (by omega), List.getElem?_modify]
    have he : (n / 8 = j) ↔ (n / 8 - l.length = j - l.length) := by omega
    simp only [he]
theorem unf_parts (p q r : List UInt8) (hp : p.length = 4) (hq : q.length = 4) : unf (p ++ (q ++ r)) = if 4096 < ube p then ([], [], 3) else if r.length < ube p then ([], [], 4) else if (crc (r.take (ube p))).toNat = ube q then (r.take (ube p), r.drop (ube p), 0) else ([], [], 7) := by
  have h1 : (p ++ (q ++ r)).take 4 = p := by rw [← hp, List.take_left']; rfl
  have h2 : (p ++ (q ++ r)).drop 4 = q ++ r := by rw [← hp, List.drop_left']; rfl
  have h3 : (q ++ r).take 4 = q := by rw [← hq, List.take_left']; rfl
  have h4 : (p ++ (q ++ r)).drop 8 = r := by
    rw [show 8 = 4 + 4 from rfl, ← List.drop_drop, h2, ← hq, List.drop_left']; rfl
  rw [unf, if_neg (by simp [hp, hq]; omega), h1, h2, h3, h4]
theorem frame_eq (b : List UInt8) : frame b = be 4 b.length ++ (be 4 (crc b).toNat ++ b) := by unfold frame; rw [List.append_assoc]
/-- A bit turned: behind the length. -/
theorem turned_far (b : List UInt8) (k : Nat) (hb : b.length ≤ 4096) (h1 : 32 ≤ k) (h2 : k < 8 * (b.length + 8)) : (unf (flip (frame b) k)).2.2 ≠ 0 := by
  have hS := (crc b).isLt
  rw [frame_eq, flip_right _ _ _ (by rw [be_length]; omega), be_length]
  by_cases h : k - 8 * 4 < 8 * (be 4 (crc b).toNat).length
  · rw [flip_left _ _ _ h, unf_parts _ _ _ (be_length _ _) (by rw [flip_length, be_length]), ube_be, Nat.mod_eq_of_lt (by omega), if_neg (by omega), if_neg (by omega), if_neg]
    · simp
    · rw [List.take_length]
      intro e
      refine flip_ne _ _ h (ube_inj _ _ (by rw [flip_length]) ?_)
      rw [← e, ube_be, Nat.mod_eq_of_lt (by omega)]
  · rw [flip_right _ _ _ (by omega), unf_parts _ _ _ (be_length _ _) (be_length _ _), ube_be, ube_be, Nat.mod_eq_of_lt (by omega), Nat.mod_eq_of_lt (by omega), if_neg (by omega), if_neg (by rw [flip_length]; omega), if_neg]
    · simp
    · rw [List.take_of_length_le (by rw [flip_length]; omega)]
      intro e
      rw [be_length] at e h
      exact crc_flip_ne b _ (by omega) (BitVec.eq_of_toNat_eq e)
/-- A bit of the length turned. -/
theorem turned_near (b : List UInt8) (k : Nat) (hb : b.length ≤ 4096) (h1 : k < 32) (h0 : (unf (flip (frame b) k)).2.2 = 0) : (unf (flip (frame b) k)).1.length ≠ b.length := by
  rw [frame_eq, flip_left _ _ _ (by rw [be_length]; omega), unf_parts _ _ _ (by rw [flip_length, be_length]) (be_length _ _)] at h0 ⊢
  have hne : ube (flip (be 4 b.length) k) ≠ b.length := by
    intro e
    refine flip_ne (be 4 b.length) k (by rw [be_length]; omega) (ube_inj _ _ (by rw [flip_length]) ?_)
    rw [e, ube_be, Nat.mod_eq_of_lt (by omega)]
  generalize ube (flip (be 4 b.length) k) = N at *
  split at h0
  · simp at h0
  · rename_i g1
    split at h0
    · simp at h0
    · rename_i g2
      split at h0
      · rename_i g3
        rw [if_neg g1, if_neg g2, if_pos g3]
        simp only [List.length_take]
        omega
      · simp at h0
/-- A frame that is cut. -/
theorem cut_short (b : List UInt8) (c : Nat) (hb : b.length ≤ 4096) (hc : c < b.length + 8) : (unf ((frame b).take c)).2.2 = 4 := by
  by_cases h8 : c < 8
  · rw [unf, if_pos (by rw [List.length_take, frame_len]; omega)]
  · have h1 : (frame b).take c = be 4 b.length ++ (be 4 (crc b).toNat ++ b.take (c - 8)) := by
      rw [frame_eq, List.take_append, List.take_append, be_length, be_length, List.take_of_length_le (by rw [be_length]; omega), List.take_of_length_le (by rw [be_length]; omega)]
      rw [show c - 4 - 4 = c - 8 by omega]
    rw [h1, unf_parts _ _ _ (be_length _ _) (be_length _ _), ube_be, Nat.mod_eq_of_lt (by omega), if_neg (by omega), if_pos (by rw [List.length_take]; omega)]
/-! ### numbers -/
theorem shl8 (n : Nat) : (1 * (2 : Int) ^ (n % 8)) % 256 = ((UInt8.ofNat (2 ^ (n % 8))).toNat : Int) := by
  have : ∀ r : Fin 8, (1 * (2 : Int) ^ r.val) % 256 = ((UInt8.ofNat (2 ^ r.val)).toNat : Int) := by decide
  exact this ⟨n % 8, Nat.mod_lt _ (by decide)⟩
theorem flip_cells {l : List UInt8} {n : Nat} (hn : n / 8 < l.length) : (flip l n).map cb = (l.map cb).set (n / 8) (cb (l[n / 8] ^^^ UInt8.ofNat (2 ^ (n % 8)))) := by
  unfold flip
  apply List.ext_getElem?
  intro i
  rw [List.getElem?_map, List.getElem?_modify, List.getElem?_set]
  by_cases e : n / 8 = i
  · subst e; simp [hn]
  · simp [e]
theorem mod_form (x : Int) (M : Nat) (hM : 0 < M) (hm : M ≤ 100000) : ∃ K : Nat, Go.RowKit.wrap64 ((IntKind.u64.wrap x).tmod (M : Int)) = (K : Int) ∧ K < M := by
  have h1 : 0 ≤ IntKind.u64.wrap x := by rw [IntKind.wrap_u64]; omega
  have h2 := Int.emod_nonneg (IntKind.u64.wrap x) (show (M : Int) ≠ 0 by omega)
  have h3 := Int.emod_lt_of_pos (IntKind.u64.wrap x) (show 0 < (M : Int) by omega)
  refine ⟨((IntKind.u64.wrap x).tmod (M : Int)).toNat, ?_, ?_⟩
  · rw [Int.tmod_eq_emod_of_nonneg h1]
    unfold Go.RowKit.wrap64; omega
  · rw [Int.tmod_eq_emod_of_nonneg h1]
    omega
end Go.Proofs.Ytggidllaodloiaa
