/-
  JOINED BY fam.py out of: TreeP:Nice,Nice.nil,Nice.puts.
-/
import Derived.Test.YtackmgmaippajaaGreatFTc
-- part TreeP
namespace Go.Proofs.YtackmgmaippajaaGreat.Tr
set_option maxRecDepth 100000
open Go Go.RowKit

section
variable {w0 w w' : World} {p T : Nat} {ps ps' : List Pl} {F F' : List Nat} {o : Obj}
end
/-- What a tree is behind n puts. -/
structure Nice (ps : List Pl) (n : Nat) : Prop where
  ver : ∀ x ∈ ps, 1 ≤ x.ver ∧ x.ver ≤ n
  key : ∀ x ∈ ps, x.key.size ≠ 0 ∧ x.key.size ≤ 64
theorem Nice.nil : Nice [] 0 := ⟨by simp, by simp⟩
theorem Nice.puts {ps : List Pl} {n : Nat} (h : Nice ps n) (key : ByteArray) (body : List UInt8) (want own : Nat) (hn : n < 9223372036854775807) : Nice (putP ps key body want own).1 (n + 1) := by
  have h' : Nice ps (n + 1) := ⟨fun x hx => ⟨(h.ver x hx).1, Nat.le_succ_of_le (h.ver x hx).2⟩, h.key⟩
  unfold putP
  split
  · exact h'
  · rename_i hk
    split
    · exact h'
    · split
      · split
        · exact h'
        · split
          · exact h'
          · refine ⟨fun x hx => ?_, fun x hx => ?_⟩
            · rcases insP_mem.1 hx with rfl | hx
              · exact ⟨Nat.le_refl _, by simp⟩
              · exact h'.ver x hx
            · rcases insP_mem.1 hx with rfl | hx
              · exact ⟨fun h => hk (.inl h), by simp only; omega⟩
              · exact h'.key x hx
      · rename_i y hy
        split
        · exact h'
        · split
          · exact h'
          · rename_i hw
            have hyv := h.ver y (look_mem hy)
            have hwe : want = y.ver := by simp at hw; exact hw.symm
            refine ⟨fun x hx => ?_, fun x hx => ?_⟩
            · rcases setP_mem hx with rfl | hx
              · simp only; omega
              · exact h'.ver x hx
            · rcases setP_mem hx with rfl | hx
              · exact ⟨fun h => hk (.inl h), by simp only; omega⟩
              · exact h'.key x hx
section
variable {w wr W w2 : World} {es : List Nd} {f g : Nd → Bool} {i j an ac bn bc xc : Nat} {ao bo xo : Option Addr} {e : Nd}
end
end Go.Proofs.YtackmgmaippajaaGreat.Tr
