/-
  THE LAW PackRow OF LAYER 2, WALKED.
-/
import Derived.Test.YtgodnlcjbfdkhaaPackG
import Derived.Test.YtgodnlcjbfdkhaaPackM
namespace Go.Proofs.Ytgodnlcjbfdkhaa
open Go Go.RowKit

def frames (l : List (List UInt8)) : List UInt8 := l.flatMap frame
theorem frames_take {l : List (List UInt8)} {k : Nat} {x : List UInt8} (h : l[k]? = some x) : frames (l.take (k + 1)) = frames (l.take k) ++ frame x := by
  rw [frames, List.take_add_one, h, List.flatMap_append]; simp [frames]
theorem frames_drop {l : List (List UInt8)} {k : Nat} {x : List UInt8} (h : l[k]? = some x) : frames (l.drop k) = frame x ++ frames (l.drop (k + 1)) := by
  obtain ⟨hlt, he⟩ := List.getElem?_eq_some_iff.1 h
  rw [List.drop_eq_getElem_cons hlt, he]; rfl
theorem frames_len : ∀ (l : List (List UInt8)), (∀ x ∈ l, x.length ≤ 500) → (frames l).length ≤ 508 * l.length
  | [], _ => by simp [frames]
  | x :: l, h => by
    have h1 := frames_len l (fun y hy => h y (by simp [hy]))
    have h2 := h x (by simp)
    have h3 := frame_len x
    simp only [frames, List.flatMap_cons, List.length_append, List.length_cons] at *
    omega
def BytesIs (w : World) (x : List UInt8) (cs : List Value) : Prop := ∃ ao cap, cs = [.slice ao x.length cap] ∧ Bts w ao x
set_option maxHeartbeats 4000000 in
set_option maxRecDepth 100000 in
theorem packRow_any (po : Option Addr) (m d : Nat) (l : List (List UInt8)) (w : World) (hpl : l.length = m) (hp : RowOf w po 1 (BytesIs w) l) (hpm : m ≤ maxLen) :
    Calls Try.prog 9 #[.slice po m d] w fun e w' => e = .returned (.bool true) ∧ Below w.heap.size w w' := by
  have HH := Lib.hid (And.intro hpl hp)
  clear hpl hp
  unfold maxLen at hpm
  go_enter Try.func9, Try.ntmps9
  go_wp2_with (go_at_call 10; (with_reducible refine (awake _).mono ?_); rintro e1 w1 ⟨rfl, hw⟩; have HW := Lib.hid hw; clear hw)
  go_loopg [3, 20] m (fun g va vi wr => ∃ (k : Nat) (eo : Option Addr) (N ec : Nat), g + k = m ∧ vi = .int .i64 k ∧ va = .slice eo N ec ∧ (frames (l.take k)).length = N ∧ Own wr 1 eo N ec ((frames (l.take k)).map cb) ∧ (∀ a, eo = some a → w.heap.size ≤ a.block) ∧ Below w.heap.size w wr ∧ k ≤ 31 ∧ ∀ x ∈ l.take k, x.length ≤ 500)
  case atStart => exact ⟨0, none, 0, 0, by omega, rfl, rfl, by simp [frames], Own.nil' _ _, by simp, HW.out, by omega, by simp⟩
  case round =>
    obtain ⟨k, eo, N, ec, hgk, rfl, rfl, hN, hown, hnew, hbel, hk31, hsh⟩ := hrel
    have hNb : N ≤ 20000 := by
      have := frames_len _ hsh
      rw [List.length_take] at this
      omega
    have HS := Lib.hid (And.intro hN (And.intro hown (And.intro hnew (And.intro hbel hsh))))
    clear hN hown hnew hbel hsh
    by_cases hk : k < m
    · obtain ⟨zb, zoff, rfl, hz1⟩ := HH.out.2 (by rw [HH.out.1]; omega)
      have hkl : k < l.length := by rw [HH.out.1]; exact hk
      obtain ⟨es, hes, ⟨ao, ac, rfl, hab⟩, hcell⟩ := hz1 k hkl
      have c0 := (Chg.of_below HS.out.2.2.2.1 (fun _ => False)).cell (hcell 0 _ rfl) (fun h => h)
      simp only [Nat.add_zero, Nat.mul_one] at c0
      have HX := Lib.hid (And.intro (List.getElem?_eq_getElem hkl) hab)
      generalize l[k] = x at *
      clear hcell hz1 hes hkl hab
      by_cases h30 : k ≤ 30
      · by_cases h500 : x.length ≤ 500
        · have hx4 : x.length ≤ 4096 := by omega
          have HFL := Lib.hid (frame_len x)
          go_wp2_with (first
            | (go_at_call 24; (with_reducible refine (frame_any ao _ ac (x.length + 8) x _ rfl hx4 (HX.out.2.below HS.out.2.2.2.1) rfl).mono ?_); rintro e2 w2 ⟨fo, fc, rfl, h1, h2, h3⟩; have H2 := Lib.hid (And.intro h1 (And.intro h2 (And.intro h3 (HS.out.2.1.keep (Chg.of_below h1 (fun _ => False)) (fun _ _ h => h))))); clear h1 h2 h3)
            | (at_builtin; refine wpList_append' rfl (.tmp 47) (.tmp 48) el_u8 rfl rfl rfl H2.out.2.2.2 (by rw [List.length_map, HFL.out, Nat.mul_one]) H2.out.2.1.bts (one_cb _) (by unfold maxLen; omega) (by omega) ?_; intro yo yc w4 hx hch _ hx2; have H4 := Lib.hid (And.intro hx (And.intro hch hx2)); clear hx hch hx2))
          go_roundg (gk - 1)
          case measure => omega
          case rel =>
            obtain ⟨hx, hch, hx2⟩ := H4.out
            have hft := frames_take HX.out.1
            have hbw := HS.out.2.2.2.1.trans (H2.out.1.mono HS.out.2.2.2.1.size)
            refine ⟨k + 1, yo, N + (x.length + 8), yc, by omega, by go_num, rfl, by rw [hft, List.length_append, HS.out.1, HFL.out], by rw [hft, List.map_append]; exact hx, ?_, ?_, by omega, ?_⟩
            · intro a ha
              rcases hx2 a ha with h | h
              · exact HS.out.2.2.1 a h
              · exact Nat.le_trans hbw.size h
            · refine hbw.trans (hch.below hbw.size ?_)
              rintro j ⟨a, ha, e⟩
              exact e ▸ HS.out.2.2.1 a ha
            · intro y hy
              rw [List.take_add_one, HX.out.1] at hy
              rcases List.mem_append.1 hy with h | h
              · exact HS.out.2.2.2.2 y h
              · simp at h; subst h; exact h500
        · go_wp2
          go_ret
          exact ⟨rfl, HS.out.2.2.2.1⟩
      · go_wp2
        go_ret
        exact ⟨rfl, HS.out.2.2.2.1⟩
    · obtain rfl : k = m := by omega
      have hall : l.take k = l := List.take_of_length_le (by rw [HH.out.1]; exact Nat.le_refl _)
      obtain ⟨hN, hown, hnew, hbel, hsh⟩ := HS.out
      rw [hall] at hN hown hsh
      have HZ := Lib.hid (And.intro hN (And.intro hown (And.intro hbel hsh)))
      have hk0 := hk31
      clear HS hN hown hnew hbel hsh hall
      go_wp2
      obtain ⟨G1, rfl⟩ : ∃ G1, G1 = gk := ⟨_, rfl⟩
      go_loopg [3, 53] k (fun g va vi wx => ∃ (j : Nat) (to' : Option Addr) (N' c' : Nat), g + j = k ∧ vi = .int .i64 j ∧ va = .slice to' N' c' ∧ (frames (l.drop j)).length = N' ∧ Bts wx to' (frames (l.drop j)) ∧ N' ≤ c' ∧ c' ≤ maxLen ∧ Below w.heap.size w wx)
      case atStart => exact ⟨0, eo, N, ec, by omega, rfl, rfl, HZ.out.1, HZ.out.2.1.bts, HZ.out.2.1.le, HZ.out.2.1.max, HZ.out.2.2.1⟩
      case round =>
        obtain ⟨j, qo, N', c', hgj, rfl, rfl, hN', hbt, hnc, hcm, hbel⟩ := hrel
        have HS := Lib.hid (And.intro hN' (And.intro hbt (And.intro hnc (And.intro hcm hbel))))
        have hN6 : N' ≤ 1000000 := by
          have h1 := frames_len (l.drop j) (fun x hx => HZ.out.2.2.2 x (List.mem_of_mem_drop hx))
          rw [List.length_drop, HH.out.1] at h1
          omega
        clear hN' hbt hnc hcm hbel
        by_cases hj : j < k
        · obtain ⟨zb, zoff, rfl, hz1⟩ := HH.out.2 (by rw [HH.out.1]; omega)
          have hkl : j < l.length := by rw [HH.out.1]; exact hj
          obtain ⟨es, hes, ⟨ao, ac, rfl, hab⟩, hcell⟩ := hz1 j hkl
          have c0 := (Chg.of_below HS.out.2.2.2.2 (fun _ => False)).cell (hcell 0 _ rfl) (fun h => h)
          simp only [Nat.add_zero, Nat.mul_one] at c0
          have hx5 := HZ.out.2.2.2 l[j] (List.getElem_mem hkl)
          have HX := Lib.hid (And.intro (frames_drop (List.getElem?_eq_getElem hkl)) hab)
          generalize l[j] = x at *
          clear hcell hz1 hes hkl hab
          have HU := Lib.hid (And.intro (show (frame x ++ frames (l.drop (j + 1))).length = N' by rw [← HX.out.1]; exact HS.out.1) (show Bts wr qo (frame x ++ frames (l.drop (j + 1))) by rw [← HX.out.1]; exact HS.out.2.1))
          have hx4 : x.length ≤ 4096 := by omega
          have ks : ((strOf x).toList == (strOf x).toList) = true := by simp
          go_wp2_with (go_at_call 26; (with_reducible refine (unframe_any qo N' c' x (frames (l.drop (j + 1))) _ HU.out.1 hx4 hN6 HU.out.2 HS.out.2.2.1 HS.out.2.2.2.1).mono ?_); rintro e3 w3 ⟨bo, bc, ro, rc, rfl, h1, h2, h3, _, _⟩; have kx := conv_bytes w3 Try.underlying22 Try.underlying5 Try.underlying9 bo _ bc x rfl h2.bts; have ky := conv_bytes w3 Try.underlying22 Try.underlying5 Try.underlying9 ao _ ac x rfl ((HX.out.2.below HS.out.2.2.2.2).below h1); have H3 := Lib.hid (And.intro h1 h3); clear h1 h2 h3)
          go_roundg (gk - 1)
          case measure => omega
          case rel =>
            exact ⟨j + 1, ro, _, rc, by omega, by go_num, rfl, rfl, H3.out.2.bts, H3.out.2.le, H3.out.2.max, HS.out.2.2.2.2.trans (H3.out.1.mono HS.out.2.2.2.2.size)⟩
        · have hnil : l.drop j = [] := List.drop_of_length_le (by rw [HH.out.1]; omega)
          have hN0 := HS.out.1
          rw [hnil] at hN0
          obtain rfl : N' = 0 := by simpa [frames] using hN0.symm
          clear hN0 hnil
          go_wp2_with (go_at_call 26; (with_reducible refine (unframe_short qo 0 c' _ (by decide)).mono ?_); rintro e3 w3 ⟨rfl, rfl⟩)
          go_ret
          exact ⟨rfl, HS.out.2.2.2.2⟩
theorem packRow_in (W : World) (base : Nat) (v0 : Value) (k0 : Value.okWide Try.prog W .any base 64 v0) (r0 : Rd Try.prog W 64 v0.cells.toList) :
    Calls Try.prog 9 #[v0] W fun e w' => e = .returned (.bool true) ∧ Below W.heap.size W w' := by
  obtain ⟨co, zs, e, rfl, hc, hl, hm⟩ := in_slice Try.underlying64 (size := 1) (by kernel_rfl) (by decide) (BytesIs W) (fun es h => by
    obtain ⟨ao, bs, c, e, _, _, _, hb⟩ := h.bytes Try.underlying22 Try.underlying5 (by kernel_rfl)
    exact ⟨bs, ao, c, e, hb⟩) k0 r0
  exact packRow_any co _ e zs W rfl hc (Nat.le_trans hl hm)
end Go.Proofs.Ytgodnlcjbfdkhaa
