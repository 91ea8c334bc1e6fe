/-
  LAYER 7: a book of a given list: the document's BookOf.
-/
import Derived.Test.YtgcldmmhfleggaaLeaseT
namespace Go.Proofs.Ytgcldmmhfleggaa
open Go Go.RowKit

def SessIs (t : Sess) (cs : List Value) : Prop := cs = t.cells ∧ t.id < 18446744073709551616 ∧ t.ends < 18446744073709551616 ∧ t.life < 18446744073709551616
theorem sess_rd {w : World} {cs : List Value} (h : Rd Try.prog w 48 cs) : ∃ t, SessIs t cs := by
  have hu := Try.underlying48
  obtain ⟨c0, c1, c2, rfl⟩ := list3 ((h.struct hu).1.trans (by kernel_rfl))
  obtain ⟨a, e1, h1⟩ := (h.field hu 0 rfl (n := 1) (by kernel_rfl)).u64 Try.underlying28
  obtain ⟨b, e2, h2⟩ := (h.field hu 1 rfl (n := 1) (by kernel_rfl)).u64 Try.underlying28
  obtain ⟨c, e3, h3⟩ := (h.field hu 2 rfl (n := 1) (by kernel_rfl)).u64 Try.underlying28
  simp at e1 e2 e3
  subst e1 e2 e3
  exact ⟨⟨a, b, c⟩, rfl, h1, h2, h3⟩
theorem row_sess {w : World} {ao : Option Addr} {l : List Sess} (h : RowOf w ao 3 SessIs l) : Row w ao (l.flatMap Sess.cells) := by
  intro hne
  have h0 : 0 < l.length := by cases l with | nil => exact absurd rfl hne | cons => simp
  obtain ⟨b, off, rfl, h1⟩ := h h0
  refine ⟨b, off, rfl, fun i v hv => ?_⟩
  have hi := (List.getElem?_eq_some_iff.1 hv).1
  rw [fl_len el_e] at hi
  have hq : i / 3 < l.length := by omega
  obtain ⟨cs, hcs, ⟨rfl, _⟩, hc⟩ := h1 (i / 3) hq
  have hfl := fl_get el_e (List.getElem?_eq_getElem hq) (show i % 3 < 3 by omega)
  rw [show i / 3 * 3 + i % 3 = i by omega, hv] at hfl
  have := hc (i % 3) v hfl.symm
  rwa [show off + i / 3 * 3 + i % 3 = off + i by omega] at this
theorem row_at {w : World} {ao : Option Addr} {l : List Sess} {k : Nat} {e : Sess} (h : Row w ao (l.flatMap Sess.cells)) (he : l[k]? = some e) :
    ∃ b off, ao = some ⟨b, off, none⟩ ∧ w.cell? ⟨b, off + k * 3, none⟩ = some (.int .u64 (e.id : Int)) ∧ w.cell? ⟨b, off + k * 3 + 1, none⟩ = some (.int .u64 (e.ends : Int)) ∧ w.cell? ⟨b, off + k * 3 + 2, none⟩ = some (.int .u64 (e.life : Int)) := by
  have h0 := fl_get el_e he (show 0 < 3 by omega)
  have h1 := fl_get el_e he (show 1 < 3 by omega)
  have h2 := fl_get el_e he (show 2 < 3 by omega)
  obtain ⟨b, off, rfl, hc⟩ := h (by intro e0; rw [e0] at h0; cases h0)
  refine ⟨b, off, rfl, ?_, ?_, ?_⟩
  · have := hc _ _ h0; rwa [Nat.add_zero] at this
  · have := hc _ _ h1; rwa [← Nat.add_assoc] at this
  · have := hc _ _ h2; rwa [← Nat.add_assoc] at this
/-- A session that may stand at place k of a book's list. -/
def Good (last : Nat) (l : List Sess) (k : Nat) (e : Sess) : Prop := 1 ≤ e.id ∧ e.id ≤ last ∧ 1 ≤ e.life ∧ e.life ≤ 1099511627776 ∧ (k = 0 ∨ ∃ q d, k = q + 1 ∧ l[q]? = some d ∧ d.id < e.id)
theorem first_bad (last : Nat) (l : List Sess) : ∀ n, (∀ k, k < n → ∀ e, l[k]? = some e → Good last l k e) ∨ ∃ k, k < n ∧ ∃ e, l[k]? = some e ∧ ¬ Good last l k e ∧ ∀ j, j < k → ∀ d, l[j]? = some d → Good last l j d
  | 0 => .inl (fun k hk => by omega)
  | n + 1 => by
    rcases first_bad last l n with h | ⟨k, hk, h⟩
    · by_cases hg : ∀ e, l[n]? = some e → Good last l n e
      · left
        intro k hk e he
        by_cases hkn : k < n
        · exact h k hkn e he
        · obtain rfl : k = n := by omega
          exact hg e he
      · right
        obtain ⟨e, he⟩ := Classical.not_forall.1 hg
        obtain ⟨he, hb⟩ := Classical.not_imp.1 he
        exact ⟨n, by omega, e, he, hb, h⟩
    · exact .inr ⟨k, by omega, h⟩
/-- Why a session may not stand there. -/
theorem bad_why {last : Nat} {l : List Sess} {k : Nat} {e : Sess} (hl : k < l.length) (h : ¬ Good last l k e) :
    e.id = 0 ∨ (1 ≤ e.id ∧ last < e.id) ∨ (1 ≤ e.id ∧ e.id ≤ last ∧ e.life = 0) ∨ (1 ≤ e.id ∧ e.id ≤ last ∧ 1 ≤ e.life ∧ 1099511627776 < e.life) ∨ (1 ≤ e.id ∧ e.id ≤ last ∧ 1 ≤ e.life ∧ e.life ≤ 1099511627776 ∧ ∃ q d, k = q + 1 ∧ l[q]? = some d ∧ e.id ≤ d.id) := by
  unfold Good at h
  by_cases h1 : 1 ≤ e.id
  · by_cases h2 : e.id ≤ last
    · by_cases h3 : 1 ≤ e.life
      · by_cases h4 : e.life ≤ 1099511627776
        · refine .inr (.inr (.inr (.inr ⟨h1, h2, h3, h4, ?_⟩)))
          cases k with
          | zero => exact absurd ⟨h1, h2, h3, h4, .inl rfl⟩ h
          | succ q =>
            refine ⟨q, l[q], rfl, List.getElem?_eq_getElem (by omega), ?_⟩
            by_cases hd : e.id ≤ l[q].id
            · exact hd
            · exact absurd ⟨h1, h2, h3, h4, .inr ⟨q, l[q], rfl, List.getElem?_eq_getElem (by omega), by omega⟩⟩ h
        · exact .inr (.inr (.inr (.inl ⟨h1, h2, h3, by omega⟩)))
      · exact .inr (.inr (.inl ⟨h1, h2, by omega⟩))
    · exact .inr (.inl ⟨h1, by omega⟩)
  · exact .inl (by omega)
theorem bdrew {w w' : World} (h : Below w.heap.size w w') (n : Nat) : Below w.heap.size w (w'.drewN n) :=
  h.trans (((Chg.refl (fun _ => False) w').drewN n).below h.size (fun _ h => h.elim))
theorem bookof_long (last : Int) (ao : Option Addr) (n c : Nat) (w : World) (hn : 16 < n) (hm : n ≤ 1000000) :
    Calls Try.prog 17 #[.int .u64 last, .slice ao n c] w fun e w' => e = .returned (.tuple #[.pointer none, .bool false]) ∧ w = w' := by
  have h : (16 : Int) < (n : Int) := by omega
  go_enter Try.func17, Try.ntmps17
  go_wp2
  go_ret2
  exact ⟨rfl, rfl⟩
theorem new_long (last : Int) (ao : Option Addr) (n c : Nat) (w : World) (hn : 16 < n) (hm : n ≤ 1000000) :
    Calls Try.prog 9 #[.int .u64 last, .slice ao n c] w fun e w' => e = .returned (.tuple #[.pointer none, .bool false]) ∧ w = w' := by
  have h : (16 : Int) < (n : Int) := by omega
  go_enter Try.func9, Try.ntmps9
  go_wp2
  go_ret2
  exact ⟨rfl, rfl⟩
set_option maxHeartbeats 4000000 in
set_option maxRecDepth 100000 in
theorem bookof_ok (last : Nat) (ao : Option Addr) (n c : Nat) (l : List Sess) (w : World) (hn : l.length = n) (hr : Row w ao (l.flatMap Sess.cells)) (hm : n ≤ 16) (hg : ∀ k, k < n → ∀ e, l[k]? = some e → Good last l k e) :
    Calls Try.prog 17 #[.int .u64 (last : Int), .slice ao n c] w fun e w' => ∃ p F, e = .returned (.tuple #[.pointer (some ⟨p, 0, none⟩), .bool true]) ∧ Below w.heap.size w w' ∧ RBookAt w' p last l F ∧ ∀ k ∈ F, w.heap.size ≤ k := by
  have HX := Lib.hid (And.intro hn (And.intro hr hg))
  have h16 : ¬ (16 : Int) < (n : Int) := by omega
  clear hn hr hg
  go_enter Try.func17, Try.ntmps17
  go_wp2
  go_loopg [6] n (fun g v wr => ∃ k : Nat, g + k = n ∧ v = .int .i64 k ∧ Below w.heap.size w wr)
  case atStart => exact ⟨0, by omega, rfl, Below.refl _ _⟩
  case round =>
    obtain ⟨k, hgk, rfl, hb⟩ := hrel
    have hrw := HX.out.2.1.below hb
    have HB := Lib.hid (And.intro hb hrw)
    clear hb
    by_cases hk : k < n
    · obtain ⟨e, he⟩ : ∃ e, l[k]? = some e := ⟨_, List.getElem?_eq_getElem (by rw [HX.out.1]; exact hk)⟩
      obtain ⟨g1, g2, g3, g4, g5⟩ := HX.out.2.2 k hk e he
      obtain ⟨b, off, rfl, c0, c1, c2⟩ := row_at hrw he
      have i0 : ((e.id : Int) == 0) = false := by simp; omega
      have i1 : ¬ (last : Int) < (e.id : Int) := by omega
      have i2 : ((e.life : Int) == 0) = false := by simp; omega
      have i3 : ¬ 1099511627776 < (e.life : Int) := by omega
      clear g1 g2 g3 g4 he
      rcases g5 with rfl | ⟨q, d, rfl, hd, hlt⟩
      · clear hrw
        simp only [Nat.zero_mul, Nat.add_zero] at c0 c1 c2
        go_wp2
        go_quiet (fail)
        go_wp2
        go_roundg (gk - 1)
        case measure => omega
        case rel => exact ⟨1, by omega, by go_num, bdrew HB.out.1 _⟩
      · obtain ⟨b', off', hab, d0, d1, d2⟩ := row_at hrw hd
        cases hab
        have j0 : (0 : Int) < ((q + 1 : Nat) : Int) := by omega
        have j1 := IntWalk.i64_in (((q + 1 : Nat) : Int) - 1) (by omega)
        have j2 : (((q + 1 : Nat) : Int) - 1).toNat = q := by omega
        have j3 : ((q + 1 : Nat) : Int) - 1 = (q : Int) := by omega
        have j4 : ¬ (e.id : Int) ≤ (d.id : Int) := by omega
        have j5 : q < n := by omega
        clear hrw hd
        go_wp2
        go_quiet (fail)
        go_wp2
        go_roundg (gk - 1)
        case measure => omega
        case rel => exact ⟨q + 1 + 1, by omega, by go_num, bdrew HB.out.1 _⟩
    · obtain rfl : k = n := by omega
      clear hrw
      go_wp2_with (at_builtin; refine wpList_append' rfl (.tmp 64) (.tmp 65) el_s rfl rfl rfl (Own.alloc0 _ 3 _ _) (by rw [fl_len el_e, HX.out.1]) (HB.out.2.below ((Below.refl _ wr).alloc (Nat.le_refl _) _)) (fl_one el_e l) (by unfold maxLen; omega) (by omega) ?_; intro xo xc w2 hx hch _ hx2; simp only [Nat.zero_add, List.nil_append] at hx; have hb2 := HB.out.1.trans ((chg_new (Below.refl _ _) hch).mono HB.out.1.size); have H2 := Lib.hid (And.intro hx (And.intro hb2 (new_blk HB.out.1 hx2))); clear hx hch hx2 hb2)
      go_ret2
      obtain ⟨hx, hb2, hnw⟩ := H2.out
      refine ⟨w2.heap.size, w2.heap.size :: blk xo, rfl, hb2.alloc hb2.size _, ⟨xo, k, xc, heap_top _ _, hx.keep ((Chg.refl (fun _ => False) w2).alloc _) (fun _ _ h => h), fun h => ?_, rfl⟩, fun j hj => ?_⟩
      · obtain ⟨a, ha, e⟩ := mem_blk.1 h
        have := (hx.at_ a ha).2.1
        omega
      · rcases List.mem_cons.1 hj with rfl | hj
        · exact hb2.size
        · obtain ⟨a, ha, rfl⟩ := mem_blk.1 hj
          exact hnw a ha
end Go.Proofs.Ytgcldmmhfleggaa
