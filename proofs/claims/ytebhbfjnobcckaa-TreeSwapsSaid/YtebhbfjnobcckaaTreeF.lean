/-
  THE LAW TreeSwaps OF LAYER 6, WALKED.
-/
import Derived.Test.YtebhbfjnobcckaaTreeE
namespace Go.Proofs.Ytebhbfjnobcckaa
open Go Go.RowKit

def BytesIs (w : World) (x : List UInt8) (cs : List Value) : Prop := ∃ ao cap, cs = [.slice ao x.length cap] ∧ Bts w ao x
theorem conv_late (w : World) : (convert 27 27 (.slice (some ⟨w.heap.size, 0, none⟩) 4 4)).run Try.prog (w.alloc (.cells #[.int .u8 108, .int .u8 97, .int .u8 116, .int .u8 101] 5)) = .ok (.slice (some ⟨w.heap.size, 0, none⟩) 4 4) (w.alloc (.cells #[.int .u8 108, .int .u8 97, .int .u8 116, .int .u8 101] 5 (4, 5))) :=
  Lib.run_convert_bytes_const w 27 5 #[.int .u8 108, .int .u8 97, .int .u8 116, .int .u8 101] 4 4 Try.underlying27 Try.underlying5
/-- The tree behind k rounds. -/
def swapped (key : ByteArray) (k : Nat) (v : List UInt8) : List Pl := if k = 0 then [] else [⟨key, v, k, 0⟩]
theorem cmpB_self (a : ByteArray) : cmpB a a = 0 := cmpB_zero.2 rfl
set_option maxHeartbeats 4000000 in
set_option maxRecDepth 100000 in
theorem treeSwaps_any (key : ByteArray) (po : Option Addr) (m d : Nat) (l : List (List UInt8)) (w : World) (hks : key.size ≤ maxLen) (hpl : l.length = m) (hp : RowOf w po 1 (BytesIs w) l) (hpm : m ≤ maxLen) :
    Calls Try.prog 3 #[.string key, .slice po m d] w fun e w' => e = .returned (.bool true) ∧ Below w.heap.size w w' := by
  have HH := Lib.hid (And.intro hpl hp)
  clear hpl hp
  unfold maxLen at hpm hks
  have hcl := conv_late
  by_cases hk : key.size ≠ 0 ∧ key.size ≤ 64 ∧ m ≤ 50
  · obtain ⟨hk0, hk64, hm50⟩ := hk
    have i1 : decide ((key.size : Int) < 1) = false := decide_eq_false (by omega)
    have i2 : decide ((64 : Int) < (key.size : Int)) = false := decide_eq_false (by omega)
    have i3 : decide ((50 : Int) < (m : Int)) = false := decide_eq_false (by omega)
    have j1 : ¬ (key.size : Int) < 1 := by omega
    have j2 : ¬ (64 : Int) < (key.size : Int) := by omega
    have j3 : ¬ (50 : Int) < (m : Int) := by omega
    have HK := Lib.hid (And.intro hk0 hk64)
    go_enter Try.func3, Try.ntmps3
    go_wp2_with fail
    (with_reducible refine (awake _).mono ?_)
    rintro e1 w1 ⟨rfl, hb1⟩
    have H1 := Lib.hid hb1
    clear hb1
    go_wp2_with fail
    (with_reducible refine (new_in w _ H1.out).mono ?_)
    rintro e2 w2 ⟨p, rfl, _, hn2⟩
    have H2 := Lib.hid hn2
    clear hn2
    go_wp2
    go_loopg [6, 34] m (fun g vs vi wr => ∃ (k : Nat) (v : List UInt8) (F : List Nat), g + k = m ∧ vi = .int .i64 k ∧ vs = .int .u64 (k : Int) ∧ TreeIn w wr p (swapped key k v) F)
    case atStart => exact ⟨0, [], [p], by omega, rfl, rfl, H2.out⟩
    case round =>
      clear H2 H1
      obtain ⟨k, v0, F, hgk, rfl, rfl, ht⟩ := hrel
      have HN := Lib.hid ht
      clear ht
      by_cases hkm : k < m
      · obtain ⟨zb, zoff, rfl, hz1⟩ := HH.out.2 (by rw [HH.out.1]; omega)
        have hkl : k < l.length := by rw [HH.out.1]; exact hkm
        obtain ⟨es, hes, ⟨ao, ac, rfl, hab⟩, hcell⟩ := hz1 k hkl
        have c0 := (Chg.of_below HN.out.below (fun _ => False)).cell (hcell 0 _ rfl) (fun h => h)
        simp only [Nat.add_zero, Nat.mul_one] at c0
        have HAB := Lib.hid hab
        generalize l[k] = x at *
        clear hcell hz1 hes hkl hab
        by_cases hx : 3840 < x.length
        · have hxi : (3840 : Int) < (x.length : Int) := by omega
          as_aux_lemma =>
            go_wp2
            go_ret
            exact ⟨rfl, HN.out.below⟩
        · have hxi : decide ((3840 : Int) < (x.length : Int)) = false := decide_eq_false (by omega)
          have hxj : ¬ (3840 : Int) < (x.length : Int) := by omega
          have hx4 : x.length ≤ 3840 := by omega
          have hku := IntWalk.u64_in ((k : Int) + 1) (by omega)
          by_cases hk00 : k = 0
          · subst hk00
            rw [Nat.add_zero] at c0
            have HP := Lib.hid (And.intro (show insP [] ⟨key, x, 1, 0⟩ = [⟨key, x, 1, 0⟩] from rfl) (show lookP [⟨key, x, 1, 0⟩] key = some ⟨key, x, 1, 0⟩ by rw [lookP, if_pos (cmpB_self key)]))
            as_aux_lemma =>
              go_wp2_with fail
              (with_reducible refine (put_new_in w p [] _ F key ao x.length ac x 0 0 _ HN.out HK.out (HAB.out.below HN.out.below) rfl hx4 rfl (by decide) rfl (by decide) HP.out.1).mono ?_)
              rintro e3 w3 ⟨rfl, F3, hn3, _, _⟩
              have H3 := Lib.hid hn3
              clear hn3
              go_wp2_with fail
              (with_reducible refine (put_exists p _ F3 key _ _ 4 4 0 _ (H3.out.alloc _).tree H3.out.fine HK.out.1 HK.out.2 (by decide) HP.out.2).mono ?_)
              rintro e4 w4 ⟨rfl, hb4⟩
              have H4 := Lib.hid ((H3.out.alloc _).stays hb4)
              clear hb4
              go_wp2_with fail
              (with_reducible refine (get_in w p _ F3 key _ _ 1 0 _ _ _ H4.out HP.out.2 rfl rfl).mono ?_)
              rintro e5 w5 ⟨bo, bc, rfl, hb5, hby⟩
              have H5 := Lib.hid (H4.out.stays hb5)
              have kx := conv_bytes (w5.alloc (.cells #[.string key, .slice bo x.length bc, .int .u64 1, .int .u64 0] 32)) Try.underlying27 Try.underlying5 Try.underlying9 bo x.length bc x rfl (hby.below ((Below.refl _ w5).alloc (Nat.le_refl _) _))
              have ky := conv_bytes (w5.alloc (.cells #[.string key, .slice bo x.length bc, .int .u64 1, .int .u64 0] 32)) Try.underlying27 Try.underlying5 Try.underlying9 ao x.length ac x rfl (HAB.out.below ((H5.out.alloc _).below))
              have ks : ((strOf x).toList == (strOf x).toList) = true := by simp
              clear hb5 hby
              go_wp2
              go_roundg (gk - 1)
              case measure => omega
              case rel => exact ⟨1, x, F3, by omega, by go_num, by push_cast; rfl, (H5.out.alloc _)⟩
          · have hk0I : ((k : Int) == 0) = false := by simp; omega
            have HN := Lib.hid (show TreeIn w wr p [⟨key, v0, k, 0⟩] F from (if_neg hk00 : swapped key k v0 = [⟨key, v0, k, 0⟩]) ▸ HN.out)
            have HP := Lib.hid (And.intro (show setP [⟨key, v0, k, 0⟩] ⟨key, x, k + 1, 0⟩ = [⟨key, x, k + 1, 0⟩] by rw [setP, if_pos (cmpB_self key)]) (And.intro (show lookP [⟨key, x, k + 1, 0⟩] key = some ⟨key, x, k + 1, 0⟩ by rw [lookP, if_pos (cmpB_self key)]) (And.intro (show lookP [⟨key, v0, k, 0⟩] key = some ⟨key, v0, k, 0⟩ by rw [lookP, if_pos (cmpB_self key)]) (show (k : Int) + 1 = ((k + 1 : Nat) : Int) by push_cast; rfl))))
            as_aux_lemma =>
              go_wp2_with fail
              (with_reducible refine (put_set_in w p _ _ F key _ ao x.length ac x (k : Int) 0 ((k : Int) + 1) k _ HN.out HK.out (HAB.out.below HN.out.below) rfl hx4 HP.out.2.2.1 rfl hk00 (by omega) rfl HP.out.2.2.2 HP.out.1).mono ?_)
              rintro e3 w3 ⟨rfl, F3, hn3, _, _⟩
              have H3 := Lib.hid hn3
              clear hn3
              go_wp2_with fail
              (with_reducible refine (put_version p _ F3 key _ _ 4 4 k 0 _ (H3.out.alloc _).tree H3.out.fine HK.out.1 HK.out.2 (by decide) HP.out.2.1 hk00 (by dsimp only; omega)).mono ?_)
              rintro e4 w4 ⟨rfl, hb4⟩
              have H4 := Lib.hid ((H3.out.alloc _).stays hb4)
              clear hb4
              go_wp2_with fail
              (with_reducible refine (get_in w p _ F3 key _ _ ((k : Int) + 1) 0 _ _ _ H4.out HP.out.2.1 HP.out.2.2.2 rfl).mono ?_)
              rintro e5 w5 ⟨bo, bc, rfl, hb5, hby⟩
              have H5 := Lib.hid (H4.out.stays hb5)
              have kx := conv_bytes (w5.alloc (.cells #[.string key, .slice bo x.length bc, .int .u64 ((k : Int) + 1), .int .u64 0] 32)) Try.underlying27 Try.underlying5 Try.underlying9 bo x.length bc x rfl (hby.below ((Below.refl _ w5).alloc (Nat.le_refl _) _))
              have ky := conv_bytes (w5.alloc (.cells #[.string key, .slice bo x.length bc, .int .u64 ((k : Int) + 1), .int .u64 0] 32)) Try.underlying27 Try.underlying5 Try.underlying9 ao x.length ac x rfl (HAB.out.below ((H5.out.alloc _).below))
              have ks : ((strOf x).toList == (strOf x).toList) = true := by simp
              clear hb5 hby
              go_wp2
              go_roundg (gk - 1)
              case measure => omega
              case rel => exact ⟨k + 1, x, F3, by omega, by go_num, by push_cast; rfl, (H5.out.alloc _)⟩
      · as_aux_lemma =>
          go_wp2
          go_ret
          exact ⟨rfl, HN.out.below⟩
  · by_cases h1 : key.size = 0
    · have j1 : (key.size : Int) < 1 := by omega
      go_enter Try.func3, Try.ntmps3
      go_wp2_with (go_at_call 10; (with_reducible refine (awake _).mono ?_); rintro e1 w1 ⟨rfl, hb1⟩; have H1 := Lib.hid hb1; clear hb1)
      go_ret
      exact ⟨rfl, H1.out⟩
    · have i1 : decide ((key.size : Int) < 1) = false := decide_eq_false (by omega)
      have j1 : ¬ (key.size : Int) < 1 := by omega
      by_cases h2 : 64 < key.size
      · have j2 : (64 : Int) < (key.size : Int) := by omega
        go_enter Try.func3, Try.ntmps3
        go_wp2_with (go_at_call 10; (with_reducible refine (awake _).mono ?_); rintro e1 w1 ⟨rfl, hb1⟩; have H1 := Lib.hid hb1; clear hb1)
        go_ret
        exact ⟨rfl, H1.out⟩
      · have i2 : decide ((64 : Int) < (key.size : Int)) = false := decide_eq_false (by omega)
        have j2 : ¬ (64 : Int) < (key.size : Int) := by omega
        have j3 : (50 : Int) < (m : Int) := by omega
        go_enter Try.func3, Try.ntmps3
        go_wp2_with (go_at_call 10; (with_reducible refine (awake _).mono ?_); rintro e1 w1 ⟨rfl, hb1⟩; have H1 := Lib.hid hb1; clear hb1)
        go_ret
        exact ⟨rfl, H1.out⟩
theorem treeSwaps_in (W : World) (base : Nat) (v0 v1 : Value) (k0 : Value.okWide Try.prog W .any base 9 v0) (k1 : Value.okWide Try.prog W .any base 22 v1) (r0 : Rd Try.prog W 9 v0.cells.toList) (r1 : Rd Try.prog W 22 v1.cells.toList) :
    Calls Try.prog 3 #[v0, v1] W fun e w' => e = .returned (.bool true) ∧ Below W.heap.size W w' := by
  obtain ⟨s, rfl⟩ := Go.WideShapes.okWide_string Try.underlying9 k0
  obtain ⟨s', hs', hsz⟩ := r0.string Try.underlying9
  obtain rfl : s' = s := by simp [Value.cells] at hs'; exact hs'.symm
  obtain ⟨co, zs, e, rfl, hc, hl, hm⟩ := in_slice Try.underlying22 (size := 1) (by kernel_rfl) (by decide) (BytesIs W) (fun es h => by
    obtain ⟨ao, bs, c, e, _, _, _, hb⟩ := h.bytes Try.underlying27 Try.underlying5 (by kernel_rfl)
    exact ⟨bs, ao, c, e, hb⟩) k1 r1
  exact treeSwaps_any s' co _ e zs W hsz rfl hc (Nat.le_trans hl hm)
end Go.Proofs.Ytebhbfjnobcckaa
