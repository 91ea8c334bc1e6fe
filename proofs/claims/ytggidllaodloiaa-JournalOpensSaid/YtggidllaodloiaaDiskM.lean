/-
  LAYER 4: disks that a law has made: one alone, or one beside the document's; a nil disk; the chapter's example.
-/
import Derived.Test.YtggidllaodloiaaDiskR
import Derived.Test.YtggidllaodloiaaStr
import Derived.Lib.SlBytesConst
namespace Go.Proofs.Ytggidllaodloiaa
open Go Go.RowKit

/-- The disk d at p is the call's own that began in w0; nothing that was there then has turned. -/
def Mine (T : TypeId) (w0 w : World) (p : Nat) (d : Dsk) : Prop := ∃ F, DiskAt T w p d F ∧ (∀ k ∈ F, w0.heap.size ≤ k) ∧ Below w0.heap.size w0 w
theorem Mine.below {T : TypeId} {w0 w : World} {p : Nat} {d : Dsk} (h : Mine T w0 w p d) : Below w0.heap.size w0 w := let ⟨_, _, _, h⟩ := h; h
theorem Mine.ok {T : TypeId} {w0 w : World} {p : Nat} {d : Dsk} (h : Mine T w0 w p d) : d.Ok := let ⟨_, ⟨_, _, _, _, _, _, h⟩, _, _⟩ := h; h
theorem Mine.step {T : TypeId} {w0 w w' : World} {p : Nat} {d' : Dsk} {F : List Nat} (hF : ∀ k ∈ F, w0.heap.size ≤ k) (hb : Below w0.heap.size w0 w) (h : DiskNow T w p F d' w') : Mine T w0 w' p d' := by
  obtain ⟨F', h1, h2, h3⟩ := h
  refine ⟨F', h1, fun k hk => ?_, hb.trans (h2.below hb.size hF)⟩
  rcases h3 k hk with h | h
  · exact hF k h
  · exact Nat.le_trans hb.size h
theorem Mine.more {T : TypeId} {w0 w w' : World} {p : Nat} {d : Dsk} (h : Mine T w0 w p d) (hb : Below w.heap.size w w') : Mine T w0 w' p d := by
  obtain ⟨F, h1, h2, h3⟩ := h
  exact ⟨F, h1.keep (Chg.of_below hb (fun _ => False)) (fun _ _ h => h), h2, h3.trans (hb.mono h3.size)⟩
theorem Mine.alloc {T : TypeId} {w0 w : World} {p : Nat} {d : Dsk} (h : Mine T w0 w p d) (o : Obj) : Mine T w0 (w.alloc o) p d := h.more ((Below.refl _ w).alloc (Nat.le_refl _) o)
theorem Mine.drewN {T : TypeId} {w0 w : World} {p : Nat} {d : Dsk} (h : Mine T w0 w p d) (n : Nat) : Mine T w0 (w.drewN n) p d := h.more (below_drewN (Below.refl _ w) n)
section
variable {w0 w : World} {p : Nat} {d : Dsk}
theorem new_mine (room : Int) (hr : 0 ≤ room ∧ room ≤ 16777216) (hb : Below w0.heap.size w0 w) :
    Calls Try.prog 9 #[.int .i64 room] w fun e w' => e = .returned (.tuple #[.pointer (some ⟨w.heap.size, 0, none⟩), .int .i64 0]) ∧ Mine 50 w0 w' w.heap.size ⟨room.toNat, 0, []⟩ :=
  (new_any room w hr).mono fun _ _ ⟨h1, h2, h3⟩ => ⟨h1, _, h3, fun k hk => by simp at hk; subst hk; exact hb.size, hb.trans (h2.mono hb.size)⟩
theorem append_mine (h : Mine 50 w0 w p d) (bo : Option Addr) (n c : Nat) (ys : List UInt8) (hl : ys.length = n) (hb : Bts w bo ys) :
    Calls Try.prog 15 #[.pointer (some ⟨p, 0, none⟩), .slice bo n c] w fun e w' => e = .returned (.int .i64 (d.append ys).1) ∧ Mine 50 w0 w' p (d.append ys).2 := by
  obtain ⟨F, h1, h2, h3⟩ := h
  exact (append_any p d F bo n c ys w h1 hl hb).mono fun _ _ ⟨e, h⟩ => ⟨e, Mine.step h2 h3 h⟩
theorem sync_mine (h : Mine 50 w0 w p d) :
    Calls Try.prog 16 #[.pointer (some ⟨p, 0, none⟩)] w fun e w' => e = .returned (.tuple #[]) ∧ Mine 50 w0 w' p { d with sure := d.b.length } := by
  obtain ⟨F, h1, h2, h3⟩ := h
  exact (sync_any p d F w h1).mono fun _ _ ⟨e, h⟩ => ⟨e, Mine.step h2 h3 h⟩
theorem crash_mine (h : Mine 50 w0 w p d) (keep bit : Int) (hk : -9223372036854775808 ≤ keep ∧ keep ≤ 9223372036854775807) :
    Calls Try.prog 13 #[.pointer (some ⟨p, 0, none⟩), .int .i64 keep, .int .i64 bit] w fun e w' => e = .returned (.tuple #[]) ∧ Mine 50 w0 w' p (d.crash keep bit) := by
  obtain ⟨F, h1, h2, h3⟩ := h
  exact (crash_any p d F keep bit w h1 hk).mono fun _ _ ⟨e, h⟩ => ⟨e, Mine.step h2 h3 h⟩
theorem sure_mine (h : Mine 50 w0 w p d) :
    Calls Try.prog 19 #[.pointer (some ⟨p, 0, none⟩)] w fun e w' => e = .returned (.int .i64 (d.sure : Int)) ∧ w = w' := by
  obtain ⟨F, h1, h2, h3⟩ := h
  exact sure_any p d F w h1
theorem bytes_mine (h : Mine 50 w0 w p d) :
    Calls Try.prog 18 #[.pointer (some ⟨p, 0, none⟩)] w fun e w' => ∃ bo cap, e = .returned (.slice bo d.b.length cap) ∧ Mine 50 w0 w' p d ∧ Own w' 1 bo d.b.length cap (d.b.map cb) ∧ (∀ a, bo = some a → w.heap.size ≤ a.block) ∧ Below w.heap.size w w' := by
  have hm := h
  obtain ⟨F, h1, h2, h3⟩ := h
  exact (bytes_any p d F w h1).mono fun _ _ ⟨bo, cap, e, hb, ho, hx⟩ => ⟨bo, cap, e, hm.more hb, ho, hx, hb⟩
end
/-- The same, its blocks told. -/
structure MineF (T : TypeId) (w0 w : World) (p : Nat) (d : Dsk) (F : List Nat) : Prop where
  is : DiskAt T w p d F
  own : ∀ k ∈ F, w0.heap.size ≤ k
  below : Below w0.heap.size w0 w
theorem Mine.F {T : TypeId} {w0 w : World} {p : Nat} {d : Dsk} (h : Mine T w0 w p d) : ∃ F, MineF T w0 w p d F := let ⟨F, a, b, c⟩ := h; ⟨F, a, b, c⟩
theorem MineF.mine {T : TypeId} {w0 w : World} {p : Nat} {d : Dsk} {F : List Nat} (h : MineF T w0 w p d F) : Mine T w0 w p d := ⟨F, h.is, h.own, h.below⟩
theorem MineF.more {T : TypeId} {w0 w w' : World} {p : Nat} {d : Dsk} {F : List Nat} (h : MineF T w0 w p d F) (hb : Below w.heap.size w w') : MineF T w0 w' p d F :=
  ⟨h.is.keep (Chg.of_below hb (fun _ => False)) (fun _ _ h => h), h.own, h.below.trans (hb.mono h.below.size)⟩
theorem MineF.alloc {T : TypeId} {w0 w : World} {p : Nat} {d : Dsk} {F : List Nat} (h : MineF T w0 w p d F) (o : Obj) : MineF T w0 (w.alloc o) p d F := h.more ((Below.refl _ w).alloc (Nat.le_refl _) o)
theorem MineF.keep {T : TypeId} {w0 w w' : World} {p : Nat} {d : Dsk} {F : List Nat} (h : MineF T w0 w p d F) {S : Nat → Prop} (hc : Chg S w w') (hS : ∀ k ∈ F, ¬ S k) (hB : ∀ k, S k → w0.heap.size ≤ k) : MineF T w0 w' p d F :=
  ⟨h.is.keep hc hS, h.own, h.below.trans (hc.below h.below.size hB)⟩
theorem MineF.step {T : TypeId} {w0 w w' : World} {p : Nat} {d d' : Dsk} {F : List Nat} (h : MineF T w0 w p d F) (hn : DiskNow T w p F d' w') : ∃ F', MineF T w0 w' p d' F' ∧ Chg (· ∈ F) w w' ∧ Grew w F F' := by
  obtain ⟨F', h1, h2, h3⟩ := hn
  refine ⟨F', ⟨h1, fun k hk => ?_, h.below.trans (h2.below h.below.size h.own)⟩, h2, h3⟩
  rcases h3 k hk with h' | h'
  · exact h.own k h'
  · exact Nat.le_trans h.below.size h'
/-- Blocks that were told apart stay apart. -/
theorem apart_step {w : World} {F F' G : List Nat} (h : ∀ k ∈ F, k ∉ G) (hg : Grew w F F') (hG : ∀ k ∈ G, k < w.heap.size) : ∀ k ∈ F', k ∉ G := by
  intro k hk hkG
  rcases hg k hk with h' | h'
  · exact h k h' hkG
  · have := hG k hkG; omega

theorem awake_crash : (Dsk.crash ⟨9, 2, [97, 98, 99, 100]⟩ 1 0) = ⟨9, 3, [97, 98, 98]⟩ := by decide
end Go.Proofs.Ytggidllaodloiaa
