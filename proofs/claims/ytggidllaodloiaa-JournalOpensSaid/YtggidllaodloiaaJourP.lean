/-
  RECORDS IN BYTES: frames one behind the other, plain lists.
-/
import Derived.Test.YtggidllaodloiaaPackJ
namespace Go.Proofs.Ytggidllaodloiaa
open Go Go.RowKit

theorem unf_frame (x r : List UInt8) (h : x.length ≤ 4096) : unf (frame x ++ r) = (x, r, 0) := by
  have hS := (crc x).isLt
  have e : frame x ++ r = be 4 x.length ++ (be 4 (crc x).toNat ++ (x ++ r)) := by unfold frame; simp only [List.append_assoc]
  have h8 : ¬ (frame x ++ r).length < 8 := by rw [List.length_append, frame_len]; omega
  have h1 : (frame x ++ r).take 4 = be 4 x.length := by rw [e]; exact be_take 4 _ _
  have h2 : (frame x ++ r).drop 4 = be 4 (crc x).toNat ++ (x ++ r) := by rw [e]; exact be_drop' 4 _ _
  have h3 : ((frame x ++ r).drop 4).take 4 = be 4 (crc x).toNat := by rw [h2]; exact be_take 4 _ _
  have h4 : (frame x ++ r).drop 8 = x ++ r := by
    rw [show (8 : Nat) = 4 + 4 from rfl, ← List.drop_drop, h2]; exact be_drop' 4 _ _
  have hx : (x ++ r).take x.length = x := by simp
  have hr : (x ++ r).drop x.length = r := by simp
  unfold unf
  rw [if_neg h8, h1, h3, h4, ube_be, ube_be, Nat.mod_eq_of_lt (show x.length < 256 ^ 4 by omega), Nat.mod_eq_of_lt (show (crc x).toNat < 256 ^ 4 by omega), hx, hr, if_neg (by omega), if_neg (by simp), if_pos rfl]
theorem unf_ok {b : List UInt8} (h : (unf b).2.2 = 0) : b = frame (unf b).1 ++ (unf b).2.1 ∧ (unf b).1.length ≤ 4096 := by
  by_cases h8 : b.length < 8
  · simp [unf, h8] at h
  · by_cases h1 : 4096 < ube (b.take 4)
    · simp [unf, h8, h1] at h
    · by_cases h2 : (b.drop 8).length < ube (b.take 4)
      · rw [unf, if_neg h8, if_neg h1, if_pos h2] at h; simp at h
      · by_cases h3 : (crc ((b.drop 8).take (ube (b.take 4)))).toNat = ube ((b.drop 4).take 4)
        · have e8 := bytes_eight b (by omega)
          have hxl : ((b.drop 8).take (ube (b.take 4))).length = ube (b.take 4) := by rw [List.length_take]; omega
          rw [unf, if_neg h8, if_neg h1, if_neg h2, if_pos h3]
          refine ⟨?_, by simp only [hxl]; omega⟩
          unfold frame
          rw [hxl, h3, List.append_assoc, List.take_append_drop, List.append_assoc, ← e8]
        · rw [unf, if_neg h8, if_neg h1, if_neg h2, if_neg h3] at h; simp at h
def frames (l : List (List UInt8)) : List UInt8 := l.flatMap frame
theorem frames_cons (x : List UInt8) (l : List (List UInt8)) : frames (x :: l) = frame x ++ frames l := rfl
theorem frames_app (l m : List (List UInt8)) : frames (l ++ m) = frames l ++ frames m := by simp [frames]
theorem frames_one (x : List UInt8) : frames [x] = frame x := by simp [frames]
/-- The records with which bytes begin, and what is left: that begins with none. -/
structure Recs (b : List UInt8) (L : List (List UInt8)) (r : List UInt8) : Prop where
  is : b = frames L ++ r
  short : ∀ x ∈ L, x.length ≤ 4096
  rest : (unf r).2.2 ≠ 0
theorem recs_ex : ∀ (n : Nat) (b : List UInt8), b.length ≤ n → ∃ L r, Recs b L r
  | 0, b, h => by
    have : b = [] := List.eq_nil_of_length_eq_zero (by omega)
    subst this
    exact ⟨[], [], ⟨rfl, by simp, by decide⟩⟩
  | n + 1, b, h => by
    by_cases h0 : (unf b).2.2 = 0
    · obtain ⟨e, hl⟩ := unf_ok h0
      have hlen := congrArg List.length e
      rw [List.length_append, frame_len] at hlen
      obtain ⟨L, r, h1⟩ := recs_ex n (unf b).2.1 (by omega)
      refine ⟨(unf b).1 :: L, r, ?_, ?_, h1.rest⟩
      · rw [frames_cons, List.append_assoc, ← h1.is]; exact e
      · intro x hx
        rcases List.mem_cons.1 hx with rfl | hx
        · exact hl
        · exact h1.short x hx
    · exact ⟨[], b, ⟨rfl, by simp, h0⟩⟩
theorem recs_unique : ∀ {L M : List (List UInt8)} {b r s : List UInt8}, Recs b L r → Recs b M s → L = M ∧ r = s
  | [], [], b, r, s, h1, h2 => ⟨rfl, by have e1 := h1.is; have e2 := h2.is; simp [frames] at e1 e2; rw [← e1, ← e2]⟩
  | [], y :: M, b, r, s, h1, h2 => by
    exfalso
    have e1 := h1.is
    have e2 := h2.is
    rw [frames_cons, List.append_assoc] at e2
    have e3 : r = frame y ++ (frames M ++ s) := by rw [← e2, e1]; simp [frames]
    exact h1.rest (by rw [e3, unf_frame _ _ (h2.short y (by simp))])
  | x :: L, [], b, r, s, h1, h2 => by
    exfalso
    have e1 := h1.is
    have e2 := h2.is
    rw [frames_cons, List.append_assoc] at e1
    have e3 : s = frame x ++ (frames L ++ r) := by rw [← e1, e2]; simp [frames]
    exact h2.rest (by rw [e3, unf_frame _ _ (h1.short x (by simp))])
  | x :: L, y :: M, b, r, s, h1, h2 => by
    have e1 := h1.is
    have e2 := h2.is
    rw [frames_cons, List.append_assoc] at e1 e2
    have u1 := unf_frame x (frames L ++ r) (h1.short x (by simp))
    have u2 := unf_frame y (frames M ++ s) (h2.short y (by simp))
    rw [← e1] at u1
    rw [← e2] at u2
    rw [u1] at u2
    simp at u2
    obtain ⟨rfl, e3⟩ := u2
    obtain ⟨rfl, rfl⟩ := recs_unique (b := frames L ++ r) ⟨rfl, fun z hz => h1.short z (by simp [hz]), h1.rest⟩ ⟨e3, fun z hz => h2.short z (by simp [hz]), h2.rest⟩
    exact ⟨rfl, rfl⟩
end Go.Proofs.Ytggidllaodloiaa
