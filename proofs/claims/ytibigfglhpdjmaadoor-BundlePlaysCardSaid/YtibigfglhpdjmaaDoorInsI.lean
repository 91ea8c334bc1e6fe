/-
  slices.Insert of one element of several cells.
-/
import Derived.Test.YtibigfglhpdjmaaDoorProg
import Derived.Test.YtibigfglhpdjmaaDoorIns
import Derived.Laws.Externs
import Derived.Deep.LoopGhost
import Derived.Deep.QuietTactic
import Derived.BigQuiet
import Derived.WalkLawsBesides
import Derived.WalkSpells
import Derived.Lib.SliceRun
import Derived.Deep.RegionLaw
import Derived.Deep.RegionWith
import Derived.Handy
namespace Go.Proofs.YtibigfglhpdjmaaDoor
open Go Go.RowKit

theorem el_i : ElemOf Tryd.prog 41 3 (.int .i64 0) 1 8 := .mk' Tryd.underlying41 (by kernel_rfl) rfl (by decide)
theorem over_false (vb b off la ca lb cb o : Nat) (u : Value) (w : World) (va : Array Value) (t : TypeId) (hva : w.heap[vb]? = some (.cells va t (0, 0))) (hu : w.cell? ⟨b, o, none⟩ = some u) (hne : vb ≠ b) :
    (callFunc 34 #[.slice (some ⟨vb, 0, none⟩) la ca, .slice (some ⟨b, off, none⟩) lb cb]).run Tryd.prog w = .ok (.value (.bool false)) w := by
  obtain ⟨tB, kB, hs, hk⟩ := shape_of hu
  have hz : ∀ w, (Go.sizeOf 3).run Tryd.prog w = .ok 1 w := fun w => by
    obtain ⟨i, hi, _, hsz, _⟩ := el_i.info
    simp [sizeOf, typeInfo, hi, hsz]
  rw [run_callFunc_extern Tryd.func34 (by kernel_rfl) (by kernel_rfl) (by kernel_rfl) (e := Extern.SlicesOverlaps.overlaps #[41, 41] #[4]) (by kernel_rfl),
    Lib.run_overlaps_apart w 41 4 3 Tryd.underlying41 1 hz ⟨vb, 0, none⟩ ⟨b, off, none⟩ la ca lb cb hne t tB va.size kB (by simp [World.shape?, hva]) hs hk (heap_frozen hva 0) (heap_frozen hva _)]
  rfl
theorem drew_setCells' (b : Nat) : ∀ (vs : List Value) (o : Nat) (w : World), (w.setCells b o vs).drew = w.drew.setCells b o vs
  | [], _, _ => rfl
  | v :: r, o, w => by rw [World.setCells, World.setCells, drew_setCells' b r]; rfl
theorem below_chg {w w' : World} (h : Below w.heap.size w w') (S : Nat → Prop) : Chg S w w' := Chg.of_below h S
def InsPost (lo : Option Addr) (n : Nat) (cs : List Value) (w w' : World) (xo : Option Addr) (xc : Nat) : Prop := Own w' 1 xo (n + 1) xc cs ∧ Chg (fun k => ∃ a, lo = some a ∧ a.block = k) w w' ∧ ∀ a, xo = some a → lo = some a ∨ w.heap.size ≤ a.block
set_option maxHeartbeats 2000000 in
set_option maxRecDepth 100000 in
theorem insert_any (lo : Option Addr) (n cap : Nat) (I : Int) (i : Nat) (cs vs : List Value) (vb : Nat) (va : Array Value) (t : TypeId) (w : World) (h : Own w 1 lo n cap cs) (hI : I = (i : Int)) (hi : i ≤ n) (hn : n ≤ 100000) (h1 : ∀ u ∈ cs, u.oneCell' = true)
    (hv : vs.length = 1) (hv1 : ∀ u ∈ vs, u.oneCell' = true) (hva : w.heap[vb]? = some (.cells va t (0, 0))) (hvs : va.toList = vs) (hvb : ∀ a, lo = some a → a.block ≠ vb) :
    Calls Tryd.prog 26 #[.slice lo n cap, .int .i64 I, .slice (some ⟨vb, 0, none⟩) 1 1] w fun e w' => ∃ xo xc, e = .returned (.slice xo (n + 1) xc) ∧ InsPost lo n (cs.take (i * 1) ++ vs ++ cs.drop (i * 1)) w w' xo xc := by
  subst hI
  have hrow : Row w (some ⟨vb, 0, none⟩) vs := fun _ => ⟨vb, 0, rfl, fun j v hj => by rw [heap_cell hva, Nat.zero_add]; rw [← hvs] at hj; simpa using hj⟩
  have hlen := h.len
  have hwn := IntWalk.i64_in ((n : Int) + 1) (by omega)
  have hwi := IntWalk.i64_in ((i : Int) + 1) (by omega)
  by_cases hin : i = n
  · subst hin
    have HO := Lib.hid (And.intro h (And.intro hrow (And.intro hv hv1)))
    have hle := h.le
    have htk : cs.take (i * 1) = cs := List.take_of_length_le (by omega)
    have hdr : cs.drop (i * 1) = [] := List.drop_of_length_le (by omega)
    rw [htk, hdr, List.append_nil]
    cases lo with
    | none =>
      have h0 := h.nil rfl
      obtain rfl : i = 0 := by omega
      subst h0
      clear h hrow hva hvs hvb hv hv1 hlen htk hdr h1
      go_enter Tryd.func26, Tryd.ntmps26
      go_wp2_with (at_builtin; refine wpList_append' rfl (.tmp 23) (.tmp 24) el_i rfl rfl rfl HO.out.1 (m := 1) (by rw [HO.out.2.2.1]) HO.out.2.1 HO.out.2.2.2 (by unfold maxLen; omega) (by omega) ?_; intro xo xc w2 hx hch _ hx2; have H2 := Lib.hid (show InsPost none 0 (cs ++ vs) w w2 xo xc from ⟨hx, hch, hx2⟩); clear hx hch hx2)
      go_ret
      exact ⟨xo, xc, rfl, H2.out⟩
    | some a =>
      obtain ⟨b, off, sp⟩ := a
      have hsp := (h.at_ _ rfl).1
      simp at hsp
      subst hsp
      clear h hrow hva hvs hvb hv hv1 hlen htk hdr h1
      go_enter Tryd.func26, Tryd.ntmps26
      go_wp2_with (at_builtin; refine wpList_append' rfl (.tmp 23) (.tmp 24) el_i rfl rfl rfl HO.out.1 (m := 1) (by rw [HO.out.2.2.1]) HO.out.2.1 HO.out.2.2.2 (by unfold maxLen; omega) (by omega) ?_; intro xo xc w2 hx hch _ hx2; have H2 := Lib.hid (show InsPost (some ⟨b, off, none⟩) i (cs ++ vs) w w2 xo xc from ⟨hx, hch, hx2⟩); clear hx hch hx2)
      all_goals (
        go_ret
        exact ⟨xo, xc, rfl, H2.out⟩)
  · have hin' : i < n := by omega
    have hle := h.le
    have hz2 : ((i : Int) == (n : Int)) = false := by simp; omega
    cases lo with
    | none => have := h.nil rfl; omega
    | some a =>
      obtain ⟨b, off, sp⟩ := a
      have hsp := (h.at_ _ rfl).1
      simp at hsp
      subst hsp
      have hbv : b ≠ vb := hvb _ rfl
      have hsz : (Tryd.prog.info? 3).map (·.size) = some 1 := by
        obtain ⟨q, hq, _, hqs, _⟩ := el_i.info
        rw [hq]; simp [hqs]
      have hmax : cap ≤ 9223372036854775807 := by have := h.max; unfold maxLen at this; omega
      have htn : ((n : Int) + 1).toNat = n + 1 := by omega
      have hti : ((i : Int) + 1).toNat = i + 1 := by omega
      have hb2 : ¬ (cap = i) := by omega
      by_cases hroom : n + 1 ≤ cap
      · have hrI : ¬ (cap : Int) < (n : Int) + 1 := by omega
        obtain ⟨junk, hj, hw⟩ := h.wider hroom
        have hxl : (i + 1) * 1 = i * 1 + 1 := by omega
        obtain ⟨_, hlt, hcap, hcs⟩ := h.at_ _ rfl
        simp only at hlt hcap hcs
        have hov : ∀ lb cb, (callFunc 34 #[.slice (some ⟨vb, 0, none⟩) 1 1, .slice (some ⟨b, off + (i + 1) * 1, none⟩) lb cb]).run Tryd.prog w = .ok (.value (.bool false)) w := fun lb cb => by
          obtain ⟨u, hu⟩ := Option.isSome_iff_exists.1 (hcap 0 (by omega)).1
          exact over_false vb b _ 1 1 lb cb _ u w va t hva hu (Ne.symm hbv)
        have hdl : (cs.drop (i * 1)).length = (n - i) * 1 := by rw [List.length_drop, hlen]; omega
        have hcp1 : ∀ ty dc sc, (Builtin.copy_ #[41, 41] ty #[.slice (some ⟨b, off + (i + 1) * 1, none⟩) (n - i) dc, .slice (some ⟨b, off + i * 1, none⟩) (n + 1 - i) sc]).run Tryd.prog w.drew = .ok (goInt ((n - i : Nat) : Int)) (w.drew.setCells b (off + (i + 1) * 1) (cs.drop (i * 1))) := fun ty dc sc => by
          have hmin : Nat.min (n + 1 - i) (n - i) = n - i := by simp only [Nat.min_def]; split <;> omega
          have := run_copy_any (P := Tryd.prog) w.drew 41 41 ty 3 1 b (off + (i + 1) * 1) (n - i) dc ⟨b, off + i * 1, none⟩ (n + 1 - i) sc (cs.drop (i * 1)) Tryd.underlying41 hsz (by rw [hmin, hdl])
            (fun j v hj => by rw [add_plain, Nat.add_assoc]; exact hcs _ v (by rwa [List.getElem?_drop] at hj))
            (fun j hj => by rw [Nat.add_assoc]; exact (hcap _ (by omega)).1) (fun j hj => by rw [Nat.add_assoc]; exact (hcap _ (by omega)).2) (fun v hv => h1 v (List.mem_of_mem_drop hv))
          rw [hmin] at this
          exact this
        obtain ⟨W1, hW1⟩ : ∃ W1, W1 = w.drew.setCells b (off + (i + 1) * 1) (cs.drop (i * 1)) := ⟨_, rfl⟩
        have hch1 : Chg (· = b) w W1 := by rw [hW1]; exact ((Chg.refl _ w).drew).trans (chg_setCells b _ _ _) (fun _ _ h => h)
        have hcp2 : ∀ ty dc, (Builtin.copy_ #[41, 41] ty #[.slice (some ⟨b, off + i * 1, none⟩) (n + 1 - i) dc, .slice (some ⟨vb, 0, none⟩) 1 1]).run Tryd.prog W1 = .ok (goInt ((1 : Nat) : Int)) (W1.setCells b (off + i * 1) vs) := fun ty dc => by
          have hmin : Nat.min 1 (n + 1 - i) = 1 := by simp only [Nat.min_def]; split <;> omega
          have hwo := (hw.drew.splice ((i + 1) * 1) (cs.drop (i * 1)) (by simp; omega))
          rw [← hW1] at hwo
          obtain ⟨_, _, hcap1, _⟩ := hwo.at_ _ rfl
          simp only at hcap1
          have := run_copy_any (P := Tryd.prog) W1 41 41 ty 3 1 b (off + i * 1) (n + 1 - i) dc ⟨vb, 0, none⟩ 1 1 vs Tryd.underlying41 hsz (by rw [hmin, hv])
            (fun j v hj => by
              rw [add_plain, Nat.zero_add, heap_cell (hch1.heap hva (Ne.symm hbv))]
              rw [← hvs] at hj; simpa using hj)
            (fun j hj => by rw [Nat.add_assoc]; exact (hcap1 _ (by omega)).1) (fun j hj => by rw [Nat.add_assoc]; exact (hcap1 _ (by omega)).2) hv1
          rw [hmin] at this
          exact this
        have hfin2 : Own (W1.setCells b (off + i * 1) vs) 1 (some ⟨b, off, none⟩) (n + 1) cap (cs.take (i * 1) ++ vs ++ cs.drop (i * 1)) := by
          have := hw.drew.inserted (i := i) hlen (by omega) hj hv
          rw [hW1]
          exact this
        have hch2 : Chg (· = b) w (W1.setCells b (off + i * 1) vs) := hch1.trans (chg_setCells b _ _ _) (fun _ _ h => h)
        rw [← hW1] at hcp1
        simp only [Nat.mul_one] at hfin2 hch2 hcp1 hcp2 hov ⊢
        have HF := Lib.hid (And.intro hfin2 hch2)
        have HC := Lib.hid (And.intro hcp1 hcp2)
        have HV := Lib.hid hov
        clear hov hcp1 hcp2 hfin2 hch1 hch2 hcs hcap hw h hrow hva hvs hW1 hdl hlen h1 hv1 hxl
        have hb4 : ¬ (cap = i + 1) := by omega
        have hb1 : (0 : Int) ≤ (i : Int) + 1 := by omega
        have hb3 : (i : Int) ≤ (n : Int) + 1 := by omega
        have hb5 : (n : Int) + 1 ≤ (cap : Int) := by omega
        have hb6 : (i : Int) + 1 ≤ (n : Int) + 1 := by omega
        -- BEGIN1
        go_enter Tryd.func26, Tryd.ntmps26
        go_wp2_with (simp only [HV.out])
        go_region_law (refine step_copy_at rfl _ _ 41 41 rfl (.slice (some ⟨b, off + (i + 1), none⟩) (n - i) (cap - (i + 1))) (.slice (some ⟨b, off + i, none⟩) (n + 1 - i) (cap - i)) (by simp [Act.eval, Act.put]) (by simp [Act.eval, Act.put]) (HC.out.1 3 (cap - (i + 1)) (cap - i)) ?_)
        go_wp2_with (simp only [HC.out.2])
        go_ret
        exact ⟨some ⟨b, off, none⟩, cap, rfl, HF.out.1, HF.out.2.to (fun k hk => ⟨_, rfl, hk.symm⟩), fun a ha => .inl ha⟩
        -- END1
      · have hrI : (cap : Int) < (n : Int) + 1 := by omega
        obtain rfl : n = cap := by omega
        have hik : i + (n + 1 - i) = n + 1 := by omega
        have hKI : (n : Int) + 1 - (i : Int) = ((n + 1 - i : Nat) : Int) := by omega
        have hwk := IntWalk.i64_in ((n : Int) + 1 - (i : Int)) (by omega)
        obtain ⟨_, hlt, hcap, hcs⟩ := h.at_ _ rfl
        simp only at hlt hcap hcs
        have hvw := heap_lt hva
        obtain ⟨G, w1, zs, hr, hG, hGm, hzl, hown, hch⟩ := run_append_zeros (w := w) 41 el_i Tryd.underlying3 hKI (h.cut (m := i) (c := n) (by omega) (by omega) (by omega)) (by omega) (by omega) (by omega) (by omega)
        rw [hik] at hr hG hown
        have hG63 : G ≤ 9223372036854775807 := by unfold maxLen at hGm; omega
        have hdl : (cs.drop (i * 1)).length = (n - i) * 1 := by rw [List.length_drop, hlen]; omega
        obtain ⟨_, _, hcapN, _⟩ := hown.at_ _ rfl
        simp only [Nat.zero_add] at hcapN
        have hcpA : ∀ ty dc, (Builtin.copy_ #[41, 41] ty #[.slice (some ⟨w.heap.size, i * 1, none⟩) (n + 1 - i) dc, .slice (some ⟨vb, 0, none⟩) 1 1]).run Tryd.prog w1 = .ok (goInt ((1 : Nat) : Int)) (w1.setCells w.heap.size (i * 1) vs) := fun ty dc => by
          have hmin : Nat.min 1 (n + 1 - i) = 1 := by simp only [Nat.min_def]; split <;> omega
          have := run_copy_any (P := Tryd.prog) w1 41 41 ty 3 1 w.heap.size (i * 1) (n + 1 - i) dc ⟨vb, 0, none⟩ 1 1 vs Tryd.underlying41 hsz (by rw [hmin, hv])
            (fun j v hj => by
              rw [add_plain, Nat.zero_add, heap_cell (hch.heap hva (fun h => h))]
              rw [← hvs] at hj; simpa using hj)
            (fun j hj => (hcapN _ (by omega)).1) (fun j hj => (hcapN _ (by omega)).2) hv1
          rw [hmin] at this
          exact this
        obtain ⟨W2, hW2⟩ : ∃ W2, W2 = w1.setCells w.heap.size (i * 1) vs := ⟨_, rfl⟩
        have hch2 : Chg (fun k => k = w.heap.size) w W2 := by rw [hW2]; exact hch.to (fun _ h => h.elim) |>.trans (chg_setCells w.heap.size vs _ w1) (fun _ _ h => h)
        have hown2 : Own W2 1 (some ⟨w.heap.size, 0, none⟩) (n + 1) G ((cs.take (i * 1) ++ zs).take (i * 1) ++ vs ++ (cs.take (i * 1) ++ zs).drop (i * 1 + vs.length)) := by
          have := hown.splice (i * 1) vs (by simp; omega)
          rw [Nat.zero_add] at this
          rw [hW2]; exact this
        obtain ⟨_, _, hcapM, _⟩ := hown2.at_ _ rfl
        simp only [Nat.zero_add] at hcapM
        have hcpB : ∀ ty dc sc, (Builtin.copy_ #[41, 41] ty #[.slice (some ⟨w.heap.size, (i + 1) * 1, none⟩) (n - i) dc, .slice (some ⟨b, off + i * 1, none⟩) (n - i) sc]).run Tryd.prog W2.drew = .ok (goInt ((n - i : Nat) : Int)) (W2.drew.setCells w.heap.size ((i + 1) * 1) (cs.drop (i * 1))) := fun ty dc sc => by
          have hmin : Nat.min (n - i) (n - i) = n - i := Nat.min_self _
          have := run_copy_any (P := Tryd.prog) W2.drew 41 41 ty 3 1 w.heap.size ((i + 1) * 1) (n - i) dc ⟨b, off + i * 1, none⟩ (n - i) sc (cs.drop (i * 1)) Tryd.underlying41 hsz (by rw [hmin, hdl])
            (fun j v hj => by
              rw [add_plain, Nat.add_assoc]
              exact hch2.cell (hcs _ v (by rwa [List.getElem?_drop] at hj)) (fun e => by simp only at e; omega))
            (fun j hj => (hcapM _ (by omega)).1) (fun j hj => (hcapM _ (by omega)).2) (fun v hv => h1 v (List.mem_of_mem_drop hv))
          rw [hmin] at this
          exact this
        have hfin : Own (W2.drew.setCells w.heap.size ((i + 1) * 1) (cs.drop (i * 1))) 1 (some ⟨w.heap.size, 0, none⟩) (n + 1) G (cs.take (i * 1) ++ vs ++ cs.drop (i * 1)) := by
          have := hown.inserted2 hlen (by omega) hv
          rw [Nat.zero_add, Nat.zero_add, ← hW2] at this
          have e : (W2.drew.setCells w.heap.size ((i + 1) * 1) (cs.drop (i * 1))) = (W2.setCells w.heap.size ((i + 1) * 1) (cs.drop (i * 1))).drew := (drew_setCells' _ _ _ _).symm
          rw [e]
          exact this.drew
        have hchF : Chg (fun k => k = w.heap.size) w (W2.drew.setCells w.heap.size ((i + 1) * 1) (cs.drop (i * 1))) := (hch2.drew).trans (chg_setCells _ _ _ _) (fun _ _ h => h)
        rw [← hW2] at hcpA
        simp only [Nat.mul_one] at hfin hchF hcpA hcpB hr ⊢
        have HF := Lib.hid (And.intro hfin hchF)
        have HC := Lib.hid (And.intro hr (And.intro hcpA hcpB))
        have hGi : ¬ (G = i) := by omega
        have hGi1 : ¬ (G = i + 1) := by omega
        have hb1 : (0 : Int) ≤ (i : Int) + 1 := by omega
        have hb6 : (i : Int) + 1 ≤ (n : Int) + 1 := by omega
        have hb3 : (i : Int) ≤ (n : Int) + 1 := by omega
        have hb7 : (i : Int) ≤ (n : Int) := by omega
        have hb8 : ¬ (n = i) := by omega
        clear hr hcpA hcpB hfin hchF hch2 hown2 hcapM hcapN hown hch hcs hcap h hrow hva hvs hW2 hdl hlen h1 hv1 hik hKI hzl
        -- BEGIN2
        go_enter Tryd.func26, Tryd.ntmps26
        go_wp2_with (first
          | (at_builtin; refine wpList_append_at _ rfl _ _ _ _ rfl _ _ rfl rfl HC.out.1 ?_)
          | (simp only [HC.out.2.1]))
        go_region_law (refine step_copy_at rfl _ _ 41 41 rfl (.slice (some ⟨w.heap.size, (i + 1), none⟩) (n - i) (G - (i + 1))) (.slice (some ⟨b, off + i, none⟩) (n - i) (n - i)) (by simp [Act.eval, Act.put]) (by simp [Act.eval, Act.put]) (HC.out.2.2 3 (G - (i + 1)) (n - i)) ?_)
        go_wp2
        go_ret
        exact ⟨some ⟨w.heap.size, 0, none⟩, G, rfl, HF.out.1, below_chg (HF.out.2.below (Nat.le_refl _) (fun k hk => Nat.le_of_eq hk.symm)) _, fun a ha => .inr (by cases ha; exact Nat.le_refl _)⟩
        -- END2
end Go.Proofs.YtibigfglhpdjmaaDoor

