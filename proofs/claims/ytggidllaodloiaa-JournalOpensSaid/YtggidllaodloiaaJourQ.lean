/-
  RECORDS BEHIND A CRASH: plain lists.
-/
import Derived.Test.YtggidllaodloiaaPackY
import Derived.Test.YtggidllaodloiaaJourP
import Derived.Test.YtggidllaodloiaaDisk
namespace Go.Proofs.Ytggidllaodloiaa
open Go Go.RowKit

theorem cut_turned (x : List UInt8) (c β : Nat) (hx : x.length ≤ 4096) (hc0 : 0 < c) (hc : c < x.length + 8) (hβ : β < 8) : (unf (flip ((frame x).take c) (8 * (c - 1) + β))).2.2 ≠ 0 := by
  by_cases h8 : c < 8
  · rw [unf, if_pos (by rw [flip_length, List.length_take, frame_len]; omega)]; simp
  · have h1 : (frame x).take c = be 4 x.length ++ (be 4 (crc x).toNat ++ x.take (c - 8)) := by
      rw [frame_eq, List.take_append, List.take_append, be_length, be_length, List.take_of_length_le (by rw [be_length]; omega), List.take_of_length_le (by rw [be_length]; omega)]
      rw [show c - 4 - 4 = c - 8 by omega]
    rw [h1, flip_right _ _ _ (by rw [be_length]; omega)]
    obtain ⟨R, hR⟩ : ∃ R, flip (be 4 (crc x).toNat ++ x.take (c - 8)) (8 * (c - 1) + β - 8 * (be 4 x.length).length) = R := ⟨_, rfl⟩
    have hl : R.length = c - 4 := by rw [← hR, flip_length, List.length_append, be_length, List.length_take]; omega
    rw [hR, ← List.take_append_drop 4 R, unf_parts _ _ _ (be_length _ _) (by rw [List.length_take]; omega), ube_be, Nat.mod_eq_of_lt (by omega), if_neg (by omega), if_pos (by rw [List.length_drop]; omega)]
    simp
theorem unf_nil : (unf []).2.2 ≠ 0 := by decide
/-- Frames that are cut, the last byte's bit turned or not: a beginning of the records. -/
theorem cut_recs : ∀ (Y : List (List UInt8)) (m : Nat) (T : List UInt8), (∀ x ∈ Y, x.length ≤ 4096) → m ≤ (frames Y).length → (T = (frames Y).take m ∨ (0 < m ∧ ∃ β, β < 8 ∧ T = flip ((frames Y).take m) (8 * (m - 1) + β))) →
    ∃ k r, k ≤ Y.length ∧ Recs T (Y.take k) r
  | [], m, T, _, hm, hT => by
    obtain rfl : m = 0 := by simpa [frames] using hm
    rcases hT with rfl | ⟨h, _⟩
    · exact ⟨0, [], by simp, by simp [frames], by simp, unf_nil⟩
    · omega
  | x :: Y, m, T, hY, hm, hT => by
    have hx := hY x (by simp)
    have hfl := frame_len x
    rw [frames_cons, List.length_append, hfl] at hm
    rw [frames_cons] at hT
    rcases Nat.lt_trichotomy m (x.length + 8) with h | h | h
    · rw [List.take_append_of_le_length (by omega)] at hT
      refine ⟨0, T, by simp, by simp [frames], by simp, ?_⟩
      rcases hT with rfl | ⟨h0, β, hβ, rfl⟩
      · rw [cut_short x m hx h]; simp
      · exact cut_turned x m β hx h0 h hβ
    · subst h
      rw [List.take_append_of_le_length (by omega), List.take_of_length_le (by omega)] at hT
      rcases hT with rfl | ⟨h0, β, hβ, rfl⟩
      · exact ⟨1, [], by simp, by simp [frames], by simpa using hx, unf_nil⟩
      · exact ⟨0, _, by simp, by simp [frames], by simp, turned_far x (8 * (x.length + 8 - 1) + β) hx (by omega) (by omega)⟩
    · have ht : (frame x ++ frames Y).take m = frame x ++ (frames Y).take (m - (x.length + 8)) := by
        rw [List.take_append, hfl, List.take_of_length_le (by omega)]
      rw [ht] at hT
      have key : ∃ T', T = frame x ++ T' ∧ (T' = (frames Y).take (m - (x.length + 8)) ∨ (0 < m - (x.length + 8) ∧ ∃ β, β < 8 ∧ T' = flip ((frames Y).take (m - (x.length + 8))) (8 * (m - (x.length + 8) - 1) + β))) := by
        rcases hT with rfl | ⟨h0, β, hβ, rfl⟩
        · exact ⟨_, rfl, .inl rfl⟩
        · refine ⟨_, flip_right _ _ _ (by rw [hfl]; omega), .inr ⟨by omega, β, hβ, ?_⟩⟩
          rw [hfl, show 8 * (m - 1) + β - 8 * (x.length + 8) = 8 * (m - (x.length + 8) - 1) + β by omega]
      obtain ⟨T', rfl, hT'⟩ := key
      obtain ⟨k, r, hk, h1⟩ := cut_recs Y (m - (x.length + 8)) T' (fun y hy => hY y (by simp [hy])) (by omega) hT'
      refine ⟨k + 1, r, by simp; omega, ?_, ?_, h1.rest⟩
      · rw [List.take_succ_cons, frames_cons, List.append_assoc, ← h1.is]
      · intro y hy
        rw [List.take_succ_cons] at hy
        rcases List.mem_cons.1 hy with rfl | hy
        · exact hx
        · exact h1.short y hy
theorem crash_recs (room : Nat) (W Y : List (List UInt8)) (keep bit : Int) (hW : ∀ x ∈ W, x.length ≤ 4096) (hY : ∀ x ∈ Y, x.length ≤ 4096) :
    ∃ k r, k ≤ Y.length ∧ Recs (Dsk.crash ⟨room, (frames W).length, frames W ++ frames Y⟩ keep bit).b (W ++ Y.take k) r ∧ (Dsk.crash ⟨room, (frames W).length, frames W ++ frames Y⟩ keep bit).b.length ≤ (frames W ++ frames Y).length ∧ (Dsk.crash ⟨room, (frames W).length, frames W ++ frames Y⟩ keep bit).room = room := by
  obtain ⟨m, hm, hu⟩ : ∃ m, m ≤ (frames Y).length ∧ Dsk.upto ⟨room, (frames W).length, frames W ++ frames Y⟩ keep = (frames W).length + m := by
    have h1 := Dsk.upto_le ⟨room, (frames W).length, frames W ++ frames Y⟩ keep (by simp)
    dsimp only at h1
    rw [List.length_append] at h1
    exact ⟨Dsk.upto ⟨room, (frames W).length, frames W ++ frames Y⟩ keep - (frames W).length, by omega, by omega⟩
  have htk : (frames W ++ frames Y).take ((frames W).length + m) = frames W ++ (frames Y).take m := by
    rw [List.take_append, List.take_of_length_le (by omega)]; simp
  have key : ∃ T, (Dsk.crash ⟨room, (frames W).length, frames W ++ frames Y⟩ keep bit).b = frames W ++ T ∧ T.length ≤ (frames Y).length ∧ (T = (frames Y).take m ∨ (0 < m ∧ ∃ β, β < 8 ∧ T = flip ((frames Y).take m) (8 * (m - 1) + β))) := by
    unfold Dsk.crash
    dsimp only
    rw [hu, htk]
    by_cases hc : (frames W).length < (frames W).length + m ∧ 0 ≤ bit ∧ bit < 8
    · rw [if_pos hc]
      obtain ⟨c1, c2, c3⟩ := hc
      have hfr : (frames W ++ (frames Y).take m).modify ((frames W).length + m - 1) (· ^^^ UInt8.ofNat (2 ^ bit.toNat)) = flip (frames W ++ (frames Y).take m) (8 * ((frames W).length + m - 1) + bit.toNat) := by
        unfold flip
        rw [show (8 * ((frames W).length + m - 1) + bit.toNat) / 8 = (frames W).length + m - 1 by omega, show (8 * ((frames W).length + m - 1) + bit.toNat) % 8 = bit.toNat by omega]
      rw [hfr, flip_right _ _ _ (by omega)]
      refine ⟨_, rfl, by rw [flip_length, List.length_take]; omega, .inr ⟨by omega, bit.toNat, by omega, ?_⟩⟩
      rw [show 8 * ((frames W).length + m - 1) + bit.toNat - 8 * (frames W).length = 8 * (m - 1) + bit.toNat by omega]
    · rw [if_neg hc]
      exact ⟨_, rfl, by rw [List.length_take]; omega, .inl rfl⟩
  obtain ⟨T, hb, hTl, hT⟩ := key
  obtain ⟨k, r, hk, h1⟩ := cut_recs Y m T hY hm hT
  refine ⟨k, r, hk, ⟨?_, ?_, h1.rest⟩, by rw [hb, List.length_append, List.length_append]; omega, rfl⟩
  · rw [hb, frames_app, List.append_assoc, ← h1.is]
  · intro x hx
    rcases List.mem_append.1 hx with hx | hx
    · exact hW x hx
    · exact hY x (List.mem_of_mem_take hx)
end Go.Proofs.Ytggidllaodloiaa
