/-
  THE LAW PackBack OF LAYER 2, WALKED.
-/
import Derived.Test.YtgodnlcjbfdkhaaPackK
import Derived.Deep.RegionHeld3
import Derived.Deep.RegionWith
namespace Go.Proofs.Ytgodnlcjbfdkhaa
open Go Go.RowKit

theorem ru8_putI (p : Nat) (D : Option Nat) (n : Nat) (V : Int) (rest : List UInt8) (w : World) (h : RdrAt w p D (be 1 n ++ rest)) (hV : V = (n : Int)) (hn : n < 256) (hb : rest.length ≤ 70368744177664) :
    Calls Try.prog 19 #[.pointer (some ⟨p, 0, none⟩)] w fun e w' => e = .returned (.int .u8 V) ∧ RdrAt w' p D rest ∧ Chg (· = p) w w' := by
  subst hV; exact ru8_put p D n rest w h hn hb
theorem ru16_putI (p : Nat) (D : Option Nat) (n : Nat) (V : Int) (rest : List UInt8) (w : World) (h : RdrAt w p D (be 2 n ++ rest)) (hV : V = (n : Int)) (hn : n < 65536) (hb : rest.length ≤ 70368744177664) :
    Calls Try.prog 20 #[.pointer (some ⟨p, 0, none⟩)] w fun e w' => e = .returned (.int .u16 V) ∧ RdrAt w' p D rest ∧ Chg (· = p) w w' := by
  subst hV; exact ru16_put p D n rest w h hn hb
theorem ru32_putI (p : Nat) (D : Option Nat) (n : Nat) (V : Int) (rest : List UInt8) (w : World) (h : RdrAt w p D (be 4 n ++ rest)) (hV : V = (n : Int)) (hn : n < 4294967296) (hb : rest.length ≤ 70368744177664) :
    Calls Try.prog 21 #[.pointer (some ⟨p, 0, none⟩)] w fun e w' => e = .returned (.int .u32 V) ∧ RdrAt w' p D rest ∧ Chg (· = p) w w' := by
  subst hV; exact ru32_put p D n rest w h hn hb
theorem ru64_putI (p : Nat) (D : Option Nat) (n : Nat) (V : Int) (rest : List UInt8) (w : World) (h : RdrAt w p D (be 8 n ++ rest)) (hV : V = (n : Int)) (hn : n < 18446744073709551616) (hb : rest.length ≤ 70368744177664) :
    Calls Try.prog 22 #[.pointer (some ⟨p, 0, none⟩)] w fun e w' => e = .returned (.int .u64 V) ∧ RdrAt w' p D rest ∧ Chg (· = p) w w' := by
  subst hV; exact ru64_put p D n rest w h hn hb
/-- Behind a reader's call the thing's box and the flag are as they were. -/
theorem back_facts {wa w1 : World} {p T R i : Nat} {v : Value} (hc : Chg (· = p) wa.drew w1) (k1 : wa.drew.cell? ⟨T, i, none⟩ = some v) (hR : wa.heap[R]? = some (.cells #[.bool true] 4 (0, 0))) (hTp : p ≠ T) (hpR : p ≠ R) :
    w1.cell? ⟨T, i, none⟩ = some v ∧ w1.cell? ⟨R, 0, none⟩ = some (.bool true) ∧ w1.frozen? ⟨R, 0, none⟩ = false := by
  have h1 := hc.heap (w := wa.drew) hR (fun h => hpR h.symm)
  refine ⟨hc.cell k1 (fun h => hTp h.symm), ?_, heap_frozen h1 0⟩
  rw [heap_cell h1]; rfl
theorem back_end {w wa w1 : World} {p R : Nat} {D : Option Nat} {X : List UInt8} {v : Value} (hr : RdrAt w1 p D X) (hc : Chg (· = p) wa.drew w1) (hR : wa.heap[R]? = some (.cells #[.bool true] 4 (0, 0))) (hw : Chg (fun k => k = R ∨ k = p) w wa) (hpR : p ≠ R) (hDR : D ≠ some R) (hv : v = .bool true) :
    RdrAt (w1.setCell ⟨R, 0, none⟩ v) p D X ∧ (w1.setCell ⟨R, 0, none⟩ v).heap[R]? = some (.cells #[.bool true] 4 (0, 0)) ∧ Chg (fun k => k = R ∨ k = p) w (w1.setCell ⟨R, 0, none⟩ v) := by
  subst hv
  have h1 := hc.heap (w := wa.drew) hR (fun h => hpR h.symm)
  refine ⟨hr.keep (Chg.one w1 R 0 _) hpR (fun k hk e => hDR (e ▸ hk)), heap_set h1 0 _, ?_⟩
  exact ((hw.drew).trans hc (fun _ _ h => Or.inr h)).set (Or.inl rfl) 0 _
set_option maxHeartbeats 4000000 in
set_option maxRecDepth 100000 in
theorem back_any (w0 w : World) (p R L : Nat) (D : Option Nat) (co : Option Addr) (e N : Nat) (l : List Thing) (more : List UInt8) (hN : l.length = N) (hc : RowOf w0 co 4 (ThingIs w0) l) (hs : Short l) (hm : more.length ≤ 1000)
    (hb : Below w0.heap.size w0 w) (hr : RdrAt w p D (encs l ++ more)) (hL : w.heap[L]? = some (.cells #[.slice co N e] 37 (0, 0))) (hR : w.heap[R]? = some (.cells #[.bool true] 4 (0, 0))) (hpR : p ≠ R) (hDR : D ≠ some R) (hp : w0.heap.size ≤ p) (hR0 : w0.heap.size ≤ R) :
    Calls Try.prog 18 #[.pointer (some ⟨p, 0, none⟩), .pointer (some ⟨L, 0, none⟩), .pointer (some ⟨R, 0, none⟩)] w fun e w' => e = .returned (.tuple #[]) ∧ RdrAt w' p D more ∧ w'.heap[R]? = some (.cells #[.bool true] 4 (0, 0)) ∧ Chg (fun k => k = R ∨ k = p) w w' := by
  have HH := Lib.hid (And.intro hc (And.intro hs hN))
  have hN60 : N ≤ 60 := hN ▸ hs.1
  have HB0 := Lib.hid (And.intro hb (And.intro hr hR))
  have hL0 := heap_cell hL 0
  simp at hL0
  clear hc hs hN hb hr hL hR
  go_enter Try.func18, Try.ntmps18
  go_wp2
  go_loopg [8] N (fun g i wr => ∃ (k : Nat), g + k = N ∧ i = .int .i64 k ∧ RdrAt wr p D (encs (l.drop k) ++ more) ∧ wr.heap[R]? = some (.cells #[.bool true] 4 (0, 0)) ∧ Chg (fun k => k = R ∨ k = p) w wr)
  case atStart => exact ⟨0, by omega, rfl, HB0.out.2.1, HB0.out.2.2, Chg.refl _ _⟩
  case round =>
    obtain ⟨k, hk, rfl, hr, hR, hch⟩ := hrel
    by_cases hlt : k < N
    · obtain ⟨zb, zoff, rfl, hz1⟩ := HH.out.1 (by rw [HH.out.2.2]; omega)
      have hkl : k < l.length := by rw [HH.out.2.2]; exact hlt
      obtain ⟨es, hes, ⟨⟨ao, ac, rfl, hab⟩, hn64, hlen, hslen⟩, hcell⟩ := hz1 k hkl
      have hbel : Below w0.heap.size w0 wr := HB0.out.1.trans (hch.below HB0.out.1.size (by rintro k (rfl | rfl) <;> omega))
      have c0 := (Chg.of_below hbel (fun _ => False)).cell (hcell 0 _ rfl) (fun h => h)
      have c1 := (Chg.of_below hbel (fun _ => False)).cell (hcell 1 _ rfl) (fun h => h)
      have c2 := (Chg.of_below hbel (fun _ => False)).cell (hcell 2 _ rfl) (fun h => h)
      have c3 := (Chg.of_below hbel (fun _ => False)).cell (hcell 3 _ rfl) (fun h => h)
      simp only [Nat.add_zero] at c0
      have hsh := HH.out.2.1.2 _ (List.getElem_mem hkl)
      have het : encs (l.drop k) = l[k].enc ++ encs (l.drop (k + 1)) := by rw [List.drop_eq_getElem_cons hkl]; rfl
      have hL : (encs (l.drop (k + 1))).length ≤ 60240 := by
        have := encs_len (l.drop (k + 1)) (fun t ht => HH.out.2.1.2 t (List.mem_of_mem_drop ht))
        rw [List.length_drop] at this
        have hl := HH.out.2.1.1
        omega
      have hm46 : (encs (l.drop (k + 1)) ++ more).length ≤ 70368744177664 := by rw [List.length_append]; omega
      rw [het, List.append_assoc] at hr
      have hw := thing_new wr (l[k].kind.toNat : Int) (l[k].n : Int) ao l[k].bs.length ac l[k].s
      have hra := hr.keep ((Chg.refl (fun _ => False) wr).alloc (.cells #[.int .u8 (l[k].kind.toNat : Int), .int .u64 (l[k].n : Int), .slice ao l[k].bs.length ac, .string l[k].s] 45)) (fun h => h) (fun _ _ h => h)
      have hRa := ((Chg.refl (fun _ => False) wr).alloc (.cells #[.int .u8 (l[k].kind.toNat : Int), .int .u64 (l[k].n : Int), .slice ao l[k].bs.length ac, .string l[k].s] 45)).heap hR (fun h => h)
      have hcha := hch.alloc (.cells #[.int .u8 (l[k].kind.toNat : Int), .int .u64 (l[k].n : Int), .slice ao l[k].bs.length ac, .string l[k].s] 45)
      have hys : Bts (wr.alloc (.cells #[.int .u8 (l[k].kind.toNat : Int), .int .u64 (l[k].n : Int), .slice ao l[k].bs.length ac, .string l[k].s] 45)) ao l[k].bs := (hab.below hbel).below ((Below.refl _ wr).alloc (Nat.le_refl _) _)
      have hao : l[k].bs ≠ [] → ∀ a, ao = some a → a.block < w0.heap.size := fun hz => bts_lt hab hz
      have hTp : p ≠ wr.heap.size := Nat.ne_of_lt (by obtain ⟨_, _, h, _⟩ := hr; exact heap_lt h)
      have hTR : R ≠ wr.heap.size := Nat.ne_of_lt (heap_lt hR)
      generalize hEE : encs (l.drop (k + 1)) = E at *
      have HEE := Lib.hid hEE
      clear hEE
      generalize l[k] = t at *
      obtain ⟨kind, N1, ys, s⟩ := t
      dsimp only at *
      go_upto_block 1 with fail
      go_cut [] (fun wx => RdrAt wx p D (E ++ more) ∧ wx.heap[R]? = some (.cells #[.bool true] 4 (0, 0)) ∧ Chg (fun k => k = R ∨ k = p) w wx)
      case first =>
        go_upto_block 2 with fail
        generalize wr.alloc (.cells #[.int .u8 (kind.toNat : Int), .int .u64 (N1 : Int), .slice ao ys.length ac, .string s] 45) = wa at *
        generalize wr.heap.size = T at *
        have k0 := heap_cell hw 0
        have k1 := heap_cell hw 1
        have k2 := heap_cell hw 2
        have k3 := heap_cell hw 3
        have kR := heap_cell hRa 0
        have kz := heap_frozen hRa 0
        simp at k0 k1 k2 k3 kR
        have kRd : wa.drew.cell? ⟨R, 0, none⟩ = some (.bool true) := kR
        have kzd : wa.drew.frozen? ⟨R, 0, none⟩ = false := kz
        have k1d : wa.drew.cell? ⟨T, 1, none⟩ = some (.int .u64 N1) := k1
        have k2d : wa.drew.cell? ⟨T, 2, none⟩ = some (.slice ao ys.length ac) := k2
        have k3d : wa.drew.cell? ⟨T, 3, none⟩ = some (.string s) := k3
        have HK := Lib.hid (And.intro hra (And.intro hw (And.intro hRa (And.intro hcha (And.intro hys hao)))))
        have hL46 : E.length ≤ 70368744177664 := by omega
        clear hra hw hRa hcha hys hao c0 c1 c2 c3 hcell hes hab hz1 hr hR hch hbel het
        have hkd : (kind.toNat : Int) % 6 = 0 ∨ (kind.toNat : Int) % 6 = 1 ∨ (kind.toNat : Int) % 6 = 2 ∨ (kind.toNat : Int) % 6 = 3 ∨ (kind.toNat : Int) % 6 = 4 ∨ (kind.toNat : Int) % 6 = 5 := by omega
        generalize hkk : (kind.toNat : Int) % 6 = kd at *
        have HKK := Lib.hid hkk
        clear hkk
        rcases hkd with rfl | rfl | rfl | rfl | rfl | rfl
        · have HRD : RowKit.Hid (RdrAt wa.drew p D (be 1 (N1 % 256) ++ (E ++ more))) := Lib.hid (by
            have h := HK.out.1
            have e : Thing.enc ⟨kind, N1, ys, s⟩ = be 1 (N1 % 256) := by unfold Thing.enc; dsimp only; simp only [show kind.toNat % 6 = 0 by have := HKK.out; omega]; rfl
            rw [e] at h
            exact h.keep ((Chg.refl (fun _ => False) _).drew) (fun h => h) (fun _ _ h => h))
          have hV : ((N1 : Int) % 256) = ((N1 % 256 : Nat) : Int) := by omega
          have HC := Lib.hid (ru8_putI p D (N1 % 256) ((N1 : Int) % 256) (E ++ more) wa.drew HRD.out hV (by omega) hm46)
          clear hV
          go_wp2
          go_region_with (go_at_call 19; (with_reducible refine HC.out.mono ?_); rintro e1 w1 ⟨rfl, hr1, hc1⟩; obtain ⟨q1, qR, qz⟩ := back_facts hc1 k1d HK.out.2.2.1 hTp hpR; have H1 := Lib.hid (And.intro hr1 hc1); clear hr1 hc1)
          all_goals go_wp2
          all_goals (go_meet; exact back_end H1.out.1 H1.out.2 HK.out.2.2.1 HK.out.2.2.2.1 hpR hDR (by simp only [IntKind.wrap_u8, IntKind.wrap_u16, IntKind.wrap_u32, beq_self_eq_true]))
        · have HRD : RowKit.Hid (RdrAt wa.drew p D (be 2 (N1 % 65536) ++ (E ++ more))) := Lib.hid (by
            have h := HK.out.1
            have e : Thing.enc ⟨kind, N1, ys, s⟩ = be 2 (N1 % 65536) := by unfold Thing.enc; dsimp only; simp only [show kind.toNat % 6 = 1 by have := HKK.out; omega]; rfl
            rw [e] at h
            exact h.keep ((Chg.refl (fun _ => False) _).drew) (fun h => h) (fun _ _ h => h))
          have hV : ((N1 : Int) % 65536) = ((N1 % 65536 : Nat) : Int) := by omega
          have HC := Lib.hid (ru16_putI p D (N1 % 65536) ((N1 : Int) % 65536) (E ++ more) wa.drew HRD.out hV (by omega) hm46)
          clear hV
          go_wp2
          go_region_with (go_at_call 20; (with_reducible refine HC.out.mono ?_); rintro e1 w1 ⟨rfl, hr1, hc1⟩; obtain ⟨q1, qR, qz⟩ := back_facts hc1 k1d HK.out.2.2.1 hTp hpR; have H1 := Lib.hid (And.intro hr1 hc1); clear hr1 hc1)
          all_goals go_wp2
          all_goals (go_meet; exact back_end H1.out.1 H1.out.2 HK.out.2.2.1 HK.out.2.2.2.1 hpR hDR (by simp only [IntKind.wrap_u8, IntKind.wrap_u16, IntKind.wrap_u32, beq_self_eq_true]))
        · have HRD : RowKit.Hid (RdrAt wa.drew p D (be 4 (N1 % 4294967296) ++ (E ++ more))) := Lib.hid (by
            have h := HK.out.1
            have e : Thing.enc ⟨kind, N1, ys, s⟩ = be 4 (N1 % 4294967296) := by unfold Thing.enc; dsimp only; simp only [show kind.toNat % 6 = 2 by have := HKK.out; omega]; rfl
            rw [e] at h
            exact h.keep ((Chg.refl (fun _ => False) _).drew) (fun h => h) (fun _ _ h => h))
          have hV : ((N1 : Int) % 4294967296) = ((N1 % 4294967296 : Nat) : Int) := by omega
          have HC := Lib.hid (ru32_putI p D (N1 % 4294967296) ((N1 : Int) % 4294967296) (E ++ more) wa.drew HRD.out hV (by omega) hm46)
          clear hV
          go_wp2
          go_region_with (go_at_call 21; (with_reducible refine HC.out.mono ?_); rintro e1 w1 ⟨rfl, hr1, hc1⟩; obtain ⟨q1, qR, qz⟩ := back_facts hc1 k1d HK.out.2.2.1 hTp hpR; have H1 := Lib.hid (And.intro hr1 hc1); clear hr1 hc1)
          all_goals go_wp2
          all_goals (go_meet; exact back_end H1.out.1 H1.out.2 HK.out.2.2.1 HK.out.2.2.2.1 hpR hDR (by simp only [IntKind.wrap_u8, IntKind.wrap_u16, IntKind.wrap_u32, beq_self_eq_true]))
        · have HRD : RowKit.Hid (RdrAt wa.drew p D (be 8 (N1) ++ (E ++ more))) := Lib.hid (by
            have h := HK.out.1
            have e : Thing.enc ⟨kind, N1, ys, s⟩ = be 8 (N1) := by unfold Thing.enc; dsimp only; simp only [show kind.toNat % 6 = 3 by have := HKK.out; omega]; rfl
            rw [e] at h
            exact h.keep ((Chg.refl (fun _ => False) _).drew) (fun h => h) (fun _ _ h => h))
          have hV : (N1 : Int) = ((N1 : Nat) : Int) := by omega
          have HC := Lib.hid (ru64_putI p D (N1) (N1 : Int) (E ++ more) wa.drew HRD.out hV hn64 hm46)
          clear hV
          go_wp2
          go_region_with (go_at_call 22; (with_reducible refine HC.out.mono ?_); rintro e1 w1 ⟨rfl, hr1, hc1⟩; obtain ⟨q1, qR, qz⟩ := back_facts hc1 k1d HK.out.2.2.1 hTp hpR; have H1 := Lib.hid (And.intro hr1 hc1); clear hr1 hc1)
          all_goals go_wp2
          all_goals (go_meet; exact back_end H1.out.1 H1.out.2 HK.out.2.2.1 HK.out.2.2.2.1 hpR hDR (by simp only [IntKind.wrap_u8, IntKind.wrap_u16, IntKind.wrap_u32, beq_self_eq_true]))
        · have HRD : RowKit.Hid (RdrAt wa.drew p D (be 4 ys.length ++ ys ++ (E ++ more))) := Lib.hid (by
            have h := HK.out.1
            have e : Thing.enc ⟨kind, N1, ys, s⟩ = be 4 ys.length ++ ys := by unfold Thing.enc; dsimp only; simp only [show kind.toNat % 6 = 4 by have := HKK.out; omega]; rfl
            rw [e] at h
            exact h.keep ((Chg.refl (fun _ => False) _).drew) (fun h => h) (fun _ _ h => h))
          have h1000 : ys.length ≤ 1000 := by omega
          have HC := Lib.hid (rbytes_put p D ys.length ys (E ++ more) wa.drew HRD.out rfl (by omega) hm46)
          have HYD := Lib.hid (show ys ≠ [] → ∀ a, ao = some a → a.block ≠ p from fun hz a ha hF => by have := HK.out.2.2.2.2.2 hz a ha; omega)
          have kc := conv_bytes wa.drew Try.underlying22 Try.underlying5 Try.underlying9 ao _ ac ys rfl HK.out.2.2.2.2.1.drew
          have ks : ((strOf ys).toList == (strOf ys).toList) = true := by simp
          go_wp2
          go_region_with (go_at_call 23; (with_reducible refine HC.out.mono ?_); rintro e1 w1 ⟨bo, bc, rfl, hb1, hr1, hc1⟩; obtain ⟨q1, qR, qz⟩ := back_facts hc1 k2d HK.out.2.2.1 hTp hpR; have kd := conv_bytes w1 Try.underlying22 Try.underlying5 Try.underlying9 bo _ bc ys rfl hb1; have ke := conv_bytes w1 Try.underlying22 Try.underlying5 Try.underlying9 ao _ ac ys rfl (hc1.bts HK.out.2.2.2.2.1.drew HYD.out); have H1 := Lib.hid (And.intro hr1 hc1); clear hr1 hc1 hb1)
          all_goals go_wp2
          all_goals (go_meet; exact back_end H1.out.1 H1.out.2 HK.out.2.2.1 HK.out.2.2.2.1 hpR hDR (by first | rfl | simp [go_sem] | simp [Act.put, strOf_toList, ba_toList]))
        · have HRD : RowKit.Hid (RdrAt wa.drew p D (be 4 s.size ++ s.data.toList ++ (E ++ more))) := Lib.hid (by
            have h := HK.out.1
            have e : Thing.enc ⟨kind, N1, ys, s⟩ = be 4 s.size ++ s.data.toList := by unfold Thing.enc; dsimp only; simp only [show kind.toNat % 6 = 5 by have := HKK.out; omega]; rfl
            rw [e] at h
            exact h.keep ((Chg.refl (fun _ => False) _).drew) (fun h => h) (fun _ _ h => h))
          have h1000 : s.size ≤ 1000 := by omega
          have HC := Lib.hid (rbytes_put p D s.size s.data.toList (E ++ more) wa.drew HRD.out (Array.length_toList ..) (by omega) hm46)
          have HSL := Lib.hid (show s.data.toList.length = s.size from Array.length_toList ..)
          have ks : ((strOf s.data.toList).toList == s.toList) = true := by rw [strOf_toList, ba_toList]; exact beq_self_eq_true _
          go_wp2
          go_region_with (go_at_call 23; (with_reducible refine HC.out.mono ?_); rintro e1 w1 ⟨bo, bc, rfl, hb1, hr1, hc1⟩; obtain ⟨q1, qR, qz⟩ := back_facts hc1 k3d HK.out.2.2.1 hTp hpR; have kd := conv_bytes w1 Try.underlying22 Try.underlying5 Try.underlying9 bo _ bc s.data.toList HSL.out hb1; have H1 := Lib.hid (And.intro hr1 hc1); clear hr1 hc1 hb1)
          all_goals go_wp2
          all_goals (go_meet; exact back_end H1.out.1 H1.out.2 HK.out.2.2.1 HK.out.2.2.2.1 hpR hDR (by first | rfl | simp [go_sem] | simp [Act.put, strOf_toList, ba_toList]))
      case rest =>
        obtain ⟨hr2, hR2, hc2⟩ := hcut
        have HE := Lib.hid (And.intro hr2 (And.intro hR2 hc2))
        clear hr2 hR2 hc2 hr hR hch hra hRa hcha hys hab hes hcell hz1 c0 c1 c2 c3 hw
        go_wp2
        go_roundg (gk - 1)
        case measure => omega
        case rel => exact ⟨k + 1, by omega, by go_num, by rw [HEE.out]; exact HE.out.1, HE.out.2.1, HE.out.2.2⟩
    · go_wp2
      go_end0
      have : l.drop k = [] := List.drop_of_length_le (by rw [HH.out.2.2]; omega)
      rw [this] at hr
      exact ⟨rfl, hr, hR, hch⟩
end Go.Proofs.Ytgodnlcjbfdkhaa
