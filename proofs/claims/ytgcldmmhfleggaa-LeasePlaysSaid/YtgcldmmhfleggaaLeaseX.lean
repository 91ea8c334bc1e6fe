/-
  LAYER 7: the document's book: sum, at, Live, Open.
-/
import Derived.Test.YtgcldmmhfleggaaLeaseR
import Derived.Test.YtgcldmmhfleggaaLeaseP
import Derived.Deep.RegionHeld3
namespace Go.Proofs.Ytgcldmmhfleggaa
open Go Go.RowKit

/-- The document's book at block p. -/
def RBookAt (w : World) (p : Nat) (last : Nat) (l : List Sess) (F : List Nat) : Prop :=
  ∃ lo n cap, w.heap[p]? = some (.cells #[.int .u64 (last : Int), .slice lo n cap] 68 (0, 0)) ∧ Own w 3 lo n cap (l.flatMap Sess.cells) ∧ p ∉ blk lo ∧ F = p :: blk lo
theorem RBookAt.keep {w w' : World} {p last : Nat} {l : List Sess} {F : List Nat} (h : RBookAt w p last l F) {S : Nat → Prop} (hc : Chg S w w') (hS : ∀ k ∈ F, ¬ S k) : RBookAt w' p last l F := by
  obtain ⟨lo, n, cap, h1, h2, h3, rfl⟩ := h
  exact ⟨lo, n, cap, hc.heap h1 (hS p (by simp)), h2.keep hc (fun a ha => hS _ (List.mem_cons_of_mem _ (mem_blk.2 ⟨a, ha, rfl⟩))), h3, rfl⟩
theorem RBookAt.lt {w : World} {p last : Nat} {l : List Sess} {F : List Nat} (h : RBookAt w p last l F) : ∀ k ∈ F, k < w.heap.size := by
  obtain ⟨lo, n, cap, h1, h2, h3, rfl⟩ := h
  intro k hk
  rcases List.mem_cons.1 hk with rfl | hk
  · exact heap_lt h1
  · obtain ⟨a, ha, rfl⟩ := mem_blk.1 hk
    exact (h2.at_ a ha).2.1
def RWrote (w w' : World) (p last : Nat) (l : List Sess) (F : List Nat) : Prop := ∃ F', RBookAt w' p last l F' ∧ Chg (· ∈ F) w w' ∧ ∀ k ∈ F', k ∈ F ∨ w.heap.size ≤ k
theorem RWrote.same {w w' : World} {p last : Nat} {l : List Sess} {F : List Nat} (h : RBookAt w p last l F) (hb : Below w.heap.size w w') : RWrote w w' p last l F :=
  ⟨F, h.keep (Chg.of_below hb (fun _ => False)) (fun _ _ h => h), Chg.of_below hb _, fun _ h => .inl h⟩
theorem rsum_any (now life : Nat) (w : World) (h1 : now < 18446744073709551616) (h2 : life < 18446744073709551616) :
    Calls Try.prog 30 #[.int .u64 (now : Int), .int .u64 (life : Int)] w fun e w' => e = .returned (.int .u64 (endsOf now life : Int)) ∧ w = w' := by
  by_cases h : 18446744073709551615 - life < now
  · have e1 : IntKind.u64.wrap ((now : Int) + (life : Int)) = (now : Int) + (life : Int) - 18446744073709551616 := by rw [IntKind.wrap_u64]; omega
    have e2 : (now : Int) + (life : Int) - 18446744073709551616 < (now : Int) := by omega
    have HE := Lib.hid (show endsOf now life = 18446744073709551615 from if_pos h)
    clear h
    go_enter Try.func30, Try.ntmps30
    go_wp2
    go_ret
    exact ⟨by rw [HE.out]; rfl, rfl⟩
  · have e1 := IntWalk.u64_in ((now : Int) + (life : Int)) (by omega)
    have e2 : ¬ (now : Int) + (life : Int) < (now : Int) := by omega
    have HE := Lib.hid (show endsOf now life = now + life from if_neg h)
    clear h
    go_enter Try.func30, Try.ntmps30
    go_wp2
    go_ret
    exact ⟨by rw [HE.out]; push_cast; rfl, rfl⟩
theorem rat_none (p last id : Nat) (l : List Sess) (F : List Nat) (w : World) (h : RBookAt w p last l F) (hl : l.length ≤ 1000000) (hno : ∀ e ∈ l, e.id ≠ id) :
    Calls Try.prog 31 #[.pointer (some ⟨p, 0, none⟩), .int .u64 (id : Int)] w fun e w' => e = .returned (.int .i64 (-1)) ∧ w = w' := by
  obtain ⟨lo, n, cap, h1, h2, h3, rfl⟩ := h
  have hn := fl_own_len el_e h2
  obtain ⟨z0, z1, z2⟩ := cells2 h1
  have HX := Lib.hid (And.intro h2 (And.intro hno hn))
  have hn6 : n ≤ 1000000 := by omega
  clear h1 h2 h3 hno hn hl
  go_enter Try.func31, Try.ntmps31
  go_wp2
  go_loopg [5] n (fun g v wr => wr = w ∧ ∃ k : Nat, g + k = n ∧ v = .int .i64 k)
  case atStart => exact ⟨rfl, 0, by omega, rfl⟩
  case round =>
    obtain ⟨rfl, k, hgk, rfl⟩ := hrel
    by_cases hk : k < n
    · obtain ⟨e, he⟩ : ∃ e, l[k]? = some e := ⟨_, List.getElem?_eq_getElem (by rw [HX.out.2.2]; exact hk)⟩
      have hne := HX.out.2.1 e (List.mem_of_getElem? he)
      obtain ⟨b, off, rfl, hc⟩ := el_at HX.out.1 he
      obtain ⟨c0, c1, c2, _⟩ := hc _ _ _ rfl
      have hd : ((e.id : Int) == (id : Int)) = false := by simp; omega
      clear hc he hne
      go_wp2
      go_roundg (gk - 1)
      case measure => omega
      case rel => exact ⟨rfl, k + 1, by omega, by go_num⟩
    · go_wp2
      go_ret
      exact ⟨rfl, rfl⟩
theorem rat_some (p last id i : Nat) (e : Sess) (l : List Sess) (F : List Nat) (w : World) (h : RBookAt w p last l F) (hl : l.length ≤ 1000000) (he : l[i]? = some e) (hid : e.id = id) (hno : ∀ e ∈ l.take i, e.id ≠ id) :
    Calls Try.prog 31 #[.pointer (some ⟨p, 0, none⟩), .int .u64 (id : Int)] w fun e w' => e = .returned (.int .i64 (i : Int)) ∧ w = w' := by
  obtain ⟨lo, n, cap, h1, h2, h3, rfl⟩ := h
  have hn := fl_own_len el_e h2
  obtain ⟨z0, z1, z2⟩ := cells2 h1
  have hin : i < n := by rw [← hn]; exact (List.getElem?_eq_some_iff.1 he).1
  have HX := Lib.hid (And.intro h2 (And.intro hno (And.intro hn (And.intro he hid))))
  have hn6 : n ≤ 1000000 := by omega
  clear h1 h2 h3 hno hn hl he hid
  go_enter Try.func31, Try.ntmps31
  go_wp2
  go_loopg [5] i (fun g v wr => wr = w ∧ ∃ k : Nat, g + k = i ∧ v = .int .i64 k)
  case atStart => exact ⟨rfl, 0, by omega, rfl⟩
  case round =>
    obtain ⟨rfl, k, hgk, rfl⟩ := hrel
    by_cases hk : k < i
    · have hkn : k < n := by omega
      obtain ⟨e', he⟩ : ∃ e, l[k]? = some e := ⟨_, List.getElem?_eq_getElem (by rw [HX.out.2.2.1]; exact hkn)⟩
      have hne := HX.out.2.1 e' (List.mem_of_getElem? (show (l.take i)[k]? = some e' by rw [List.getElem?_take, if_pos hk]; exact he))
      obtain ⟨b, off, rfl, hc⟩ := el_at HX.out.1 he
      obtain ⟨c0, c1, c2, _⟩ := hc _ _ _ rfl
      have hd : ((e'.id : Int) == (id : Int)) = false := by simp; omega
      clear hc he hne
      go_wp2
      go_roundg (gk - 1)
      case measure => omega
      case rel => exact ⟨rfl, k + 1, by omega, by go_num⟩
    · obtain rfl : k = i := by omega
      obtain ⟨b, off, rfl, hc⟩ := el_at HX.out.1 HX.out.2.2.2.1
      obtain ⟨c0, c1, c2, _⟩ := hc _ _ _ rfl
      have hd : ((e.id : Int) == (id : Int)) = true := by rw [HX.out.2.2.2.2]; simp
      clear hc
      go_wp2
      go_ret
      exact ⟨rfl, rfl⟩
theorem rlive_any (p last id now : Nat) (l : List Sess) (F : List Nat) (w : World) (h : RBookAt w p last l F) (hl : l.length ≤ 1000000) :
    Calls Try.prog 23 #[.pointer (some ⟨p, 0, none⟩), .int .u64 (id : Int), .int .u64 (now : Int)] w fun e w' => e = .returned (.bool (liveL l id now)) ∧ w = w' := by
  rcases who l id with hno | ⟨i, e, he, hid, hno⟩
  · have HF := Lib.hid (rat_none p last id l F w h hl hno)
    have HL := Lib.hid (liveL_none (now := now) hno)
    clear h hno
    go_enter Try.func23, Try.ntmps23
    go_wp2_with (go_at_call 31; (with_reducible refine HF.out.mono ?_); rintro r w1 ⟨rfl, rfl⟩)
    go_ret
    exact ⟨by rw [HL.out]; rfl, rfl⟩
  · have HF := Lib.hid (rat_some p last id i e l F w h hl he hid hno)
    have HL := Lib.hid (liveL_some (now := now) he hid hno)
    obtain ⟨lo, n, cap, h1, h2, h3, hF⟩ := h
    have hn := fl_own_len el_e h2
    have hi : (i : Int) < (n : Int) := by have := (List.getElem?_eq_some_iff.1 he).1; omega
    obtain ⟨b, off, rfl, hc⟩ := el_at h2 he
    obtain ⟨c0, c1, c2, _⟩ := hc _ _ _ rfl
    obtain ⟨z0, z1, z2⟩ := cells2 h1
    clear h1 h2 h3 hF he hid hno hc
    go_enter Try.func23, Try.ntmps23
    go_wp2_with (go_at_call 31; (with_reducible refine HF.out.mono ?_); rintro r w1 ⟨rfl, rfl⟩)
    go_ret
    exact ⟨by rw [HL.out]; rfl, rfl⟩
end Go.Proofs.Ytgcldmmhfleggaa
