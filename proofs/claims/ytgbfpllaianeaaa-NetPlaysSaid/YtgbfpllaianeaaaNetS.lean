/-
  LAYER 20: SameMessages of alike ones.
-/
import Derived.Test.YtgbfpllaianeaaaNetC
import Derived.StillTactics
namespace Go.Proofs.Ytgbfpllaianeaaa
open Go Go.RowKit

/-- A list of messages, to be read. -/
def MsgsRow (w : World) (ao : Option Addr) (es : List Ent) : Prop := Row w ao (es.flatMap Ent.cells) ∧ ∀ e ∈ es, Bts w e.bo e.m.body
theorem MsgsRow.below {w w' : World} {ao : Option Addr} {es : List Ent} (h : MsgsRow w ao es) (hb : Below w.heap.size w w') : MsgsRow w' ao es := ⟨h.1.below hb, fun e he => (h.2 e he).below hb⟩
theorem MsgsRow.at {w : World} {ao : Option Addr} {es : List Ent} {i : Nat} {e : Ent} (h : MsgsRow w ao es) (hi : es[i]? = some e) :
    ∃ b off, ao = some ⟨b, off, none⟩ ∧ w.cell? ⟨b, off + i * 3, none⟩ = some (.int .i64 e.m.frm) ∧ w.cell? ⟨b, off + i * 3 + 1, none⟩ = some (.int .i64 e.m.dst) ∧ w.cell? ⟨b, off + i * 3 + 2, none⟩ = some (.slice e.bo e.m.body.length e.cap) ∧ Bts w e.bo e.m.body := by
  have hne : es.flatMap Ent.cells ≠ [] := by
    intro h0
    have := flat_len es
    rw [h0] at this
    rw [List.length_nil] at this
    rw [List.length_eq_zero_iff.1 (show es.length = 0 by omega)] at hi; simp at hi
  obtain ⟨b, off, rfl, hc⟩ := h.1 hne
  refine ⟨b, off, rfl, ?_, ?_, ?_, h.2 e (List.mem_of_getElem? hi)⟩
  · have := hc (i * 3 + 0) _ (ent_cells hi (by omega)); simpa using this
  · have := hc (i * 3 + 1) _ (ent_cells hi (by omega)); rwa [← Nat.add_assoc] at this
  · have := hc (i * 3 + 2) _ (ent_cells hi (by omega)); rwa [← Nat.add_assoc] at this
set_option maxHeartbeats 2000000 in
set_option maxRecDepth 100000 in
theorem same_msgs (ao bo : Option Addr) (n c d : Nat) (es fs : List Ent) (w : World) (h1 : MsgsRow w ao es) (h2 : MsgsRow w bo fs) (hn1 : es.length = n) (hn2 : fs.length = n) (hm : es.map Ent.m = fs.map Ent.m) (hn : n ≤ 1000000) :
    Calls Try.prog 15 #[.slice ao n c, .slice bo n d] w fun e w' => e = .returned (.bool true) ∧ Below w.heap.size w w' := by
  have HH := Lib.hid (And.intro h1 (And.intro h2 (And.intro hn1 (And.intro hn2 hm))))
  clear h1 h2 hn1 hn2 hm
  go_enter Try.func15, Try.ntmps15
  go_wp2
  go_loopg [5] n (fun g v wr => ∃ k : Nat, g + k = n ∧ v = .int .i64 k ∧ Below w.heap.size w wr)
  case atStart => exact ⟨0, by omega, rfl, Below.refl _ _⟩
  case round =>
    obtain ⟨k, hgk, rfl, hb⟩ := hrel
    by_cases hk : k < n
    · obtain ⟨e, he⟩ : ∃ e, es[k]? = some e := ⟨_, List.getElem?_eq_getElem (by rw [HH.out.2.2.1]; exact hk)⟩
      obtain ⟨f, hf⟩ : ∃ f, fs[k]? = some f := ⟨_, List.getElem?_eq_getElem (by rw [HH.out.2.2.2.1]; exact hk)⟩
      have hef : e.m = f.m := by
        have h := congrArg (·[k]?) HH.out.2.2.2.2
        simp only [List.getElem?_map, he, hf, Option.map_some] at h
        exact Option.some.inj h
      obtain ⟨b1, o1, rfl, c0, c1, c2, c3⟩ := (HH.out.1.below hb).at he
      obtain ⟨b2, o2, rfl, d0, d1, d2, d3⟩ := (HH.out.2.1.below hb).at hf
      rw [← hef] at d0 d1 d2 d3
      obtain ⟨⟨x0, x1, xs⟩, xo, xc⟩ := e
      obtain ⟨fm, yo, yc⟩ := f
      dsimp only at *
      have ks : ((strOf xs).toList == (strOf xs).toList) = true := by simp
      have kx := conv_bytes wr.drew Try.underlying22 Try.underlying5 Try.underlying9 xo _ xc xs rfl c3.drew
      have ky := conv_bytes wr.drew Try.underlying22 Try.underlying5 Try.underlying9 yo _ yc xs rfl d3.drew
      have hki : (k : Int) < (n : Int) := by omega
      have hk0 : (0 : Int) ≤ (k : Int) := by omega
      have HB := Lib.hid (hb.drew)
      clear hb he hf hef c3 d3
      go_wp2
      go_still (by kernel_rfl)
      go_wp2
      go_roundg (gk - 1)
      case measure => omega
      case rel => exact ⟨k + 1, by omega, by go_num, HB.out⟩
    · have HB := Lib.hid hb
      clear hb
      go_wp2
      go_ret
      exact ⟨rfl, HB.out⟩
end Go.Proofs.Ytgbfpllaianeaaa
