/-
  LAYER 2: 'put', walked.
-/
import Derived.Test.YtgodnlcjbfdkhaaPackT
namespace Go.Proofs.Ytgodnlcjbfdkhaa
open Go Go.RowKit

/-- Behind a writer's call the thing's box is as it was. -/
theorem put_next {w0 wa w1 : World} {p T : Nat} {F : List Nat} {bo : Option Addr} {n cap : Nat} {L bw : List UInt8} {o : Obj} (h : Both w0 wa p F bo n cap L L) (hw : wa.heap[T]? = some o) (hT : ∀ k ∈ F, k ≠ T) (hn : WrNow wa p F bw w1) : ∃ F2, Both w0 w1 p F2 bo n cap bw L ∧ w1.heap[T]? = some o := by
  obtain ⟨F2, hB⟩ := h.wrote hn
  obtain ⟨_, _, hc, _⟩ := hn
  exact ⟨F2, hB, hc.heap hw (fun hk => hT T hk rfl)⟩
theorem u8_anyI (p : Nat) (bs : List UInt8) (F : List Nat) (n : Nat) (V : Int) (w : World) (h : WrAt w p bs F) (hV : V = (n : Int)) (hn : n < 256) (hb : bs.length ≤ 70368744177664) :
    Calls Try.prog 34 #[.pointer (some ⟨p, 0, none⟩), .int .u8 V] w fun e w' => e = .returned (.tuple #[]) ∧ WrNow w p F (bs ++ be 1 n) w' := by
  subst hV; exact u8_any p bs F n w h hn hb
theorem u16_anyI (p : Nat) (bs : List UInt8) (F : List Nat) (n : Nat) (V : Int) (w : World) (h : WrAt w p bs F) (hV : V = (n : Int)) (hn : n < 65536) (hb : bs.length ≤ 70368744177664) :
    Calls Try.prog 28 #[.pointer (some ⟨p, 0, none⟩), .int .u16 V] w fun e w' => e = .returned (.tuple #[]) ∧ WrNow w p F (bs ++ be 2 n) w' := by
  subst hV; exact u16_any p bs F n w h hn hb
theorem u32_anyI (p : Nat) (bs : List UInt8) (F : List Nat) (n : Nat) (V : Int) (w : World) (h : WrAt w p bs F) (hV : V = (n : Int)) (hn : n < 4294967296) (hb : bs.length ≤ 70368744177664) :
    Calls Try.prog 36 #[.pointer (some ⟨p, 0, none⟩), .int .u32 V] w fun e w' => e = .returned (.tuple #[]) ∧ WrNow w p F (bs ++ be 4 n) w' := by
  subst hV; exact u32_any p bs F n w h hn hb
theorem put_anyI (ao : Option Addr) (n cap : Nat) (bs : List UInt8) (N size : Nat) (V S : Int) (w : World) (h : Own w 1 ao n cap (bs.map cb)) (hn : n ≤ 70368744177664) (hV : V = (N : Int)) (hS : S = (size : Int)) (hN : N < 18446744073709551616) (hs : size ≤ 8) :
    Calls Try.prog 35 #[.slice ao n cap, .int .u64 V, .int .i64 S] w fun e w' => ∃ ao' cap', e = .returned (.slice ao' (n + size) cap') ∧ SlApp w ao w' ao' (n + size) cap' (bs ++ be size N) := by
  subst hV; subst hS; exact put_any ao n cap bs N size w h hn hN hs
set_option maxHeartbeats 4000000 in
set_option maxRecDepth 100000 in
theorem put_all (co : Option Addr) (e N : Nat) (l : List Thing) (w : World) (hN : l.length = N) (hc : RowOf w co 4 (ThingIs w) l) (hs : Short l) :
    Calls Try.prog 16 #[.slice co N e] w fun e w' => ∃ p F bo n cap, e = .returned (.tuple #[.pointer (some ⟨p, 0, none⟩), .slice bo n cap]) ∧ Both w w' p F bo n cap (encs l) (encs l) := by
  have HH := Lib.hid (And.intro hc (And.intro hs hN))
  have hN60 : N ≤ 60 := hN ▸ hs.1
  clear hc hs hN
  go_enter Try.func16, Try.ntmps16
  go_wp2
  have hb0 : Both w (w.alloc (.cells #[.slice none 0 0] 32)) w.heap.size [w.heap.size] none 0 0 [] [] :=
    ⟨⟨none, 0, heap_top _ _, Own.nil' _ _, by simp, rfl⟩, Own.nil' _ _, fun k hk => by rw [List.mem_singleton] at hk; omega, by simp, (Below.refl _ w).alloc (Nat.le_refl _) _⟩
  have HB0 := Lib.hid hb0
  clear hb0
  generalize hp : w.heap.size = p at *
  have HP := Lib.hid hp
  clear hp
  go_loopg [5, 12] N (fun g b i wr => ∃ (k : Nat) (F : List Nat) (bo : Option Addr) (n cap : Nat), g + k = N ∧ i = .int .i64 k ∧ b = .slice bo n cap ∧ Both w wr p F bo n cap (encs (l.take k)) (encs (l.take k)))
  case atStart => exact ⟨0, _, none, 0, 0, by omega, rfl, rfl, HB0.out⟩
  case round =>
    obtain ⟨k, F, bo, n, cap, hk, rfl, rfl, hb⟩ := hrel
    by_cases hlt : k < N
    · obtain ⟨zb, zoff, rfl, hz1⟩ := HH.out.1 (by rw [HH.out.2.2]; omega)
      have hkl : k < l.length := by rw [HH.out.2.2]; exact hlt
      obtain ⟨es, hes, ⟨⟨ao, ac, rfl, hab⟩, hn64, hlen, hslen⟩, hcell⟩ := hz1 k hkl
      have c0 := (Chg.of_below hb.below (fun _ => False)).cell (hcell 0 _ rfl) (fun h => h)
      have c1 := (Chg.of_below hb.below (fun _ => False)).cell (hcell 1 _ rfl) (fun h => h)
      have c2 := (Chg.of_below hb.below (fun _ => False)).cell (hcell 2 _ rfl) (fun h => h)
      have c3 := (Chg.of_below hb.below (fun _ => False)).cell (hcell 3 _ rfl) (fun h => h)
      simp only [Nat.add_zero] at c0
      have hsh := HH.out.2.1.2 _ (List.getElem_mem hkl)
      have het := encs_take (List.getElem?_eq_getElem hkl)
      have hL : (encs (l.take k)).length ≤ 60240 := by
        have := encs_len (l.take k) (fun t ht => HH.out.2.1.2 t (List.mem_of_mem_take ht))
        rw [List.length_take] at this
        omega
      have hnl : n = (encs (l.take k)).length := by have := hb.own.len; rw [List.length_map, Nat.mul_one] at this; exact this.symm
      subst hnl
      have hw := thing_new wr (l[k].kind.toNat : Int) (l[k].n : Int) ao l[k].bs.length ac l[k].s
      have hba := hb.alloc (.cells #[.int .u8 (l[k].kind.toNat : Int), .int .u64 (l[k].n : Int), .slice ao l[k].bs.length ac, .string l[k].s] 45)
      have hTF : ∀ k ∈ F, k ≠ wr.heap.size := fun k hk => Nat.ne_of_lt (hb.wr.lt k hk)
      have hTb : ∀ a, bo = some a → a.block ≠ wr.heap.size := fun a ha => Nat.ne_of_lt (hb.own.at_ a ha).2.1
      have hys : Bts (wr.alloc (.cells #[.int .u8 (l[k].kind.toNat : Int), .int .u64 (l[k].n : Int), .slice ao l[k].bs.length ac, .string l[k].s] 45)) ao l[k].bs := hab.below hba.below
      have hao : l[k].bs ≠ [] → ∀ a, ao = some a → a.block < w.heap.size := fun hz => bts_lt hab hz
      generalize encs (l.take k) = L at *
      generalize l[k] = t at *
      obtain ⟨kind, N1, ys, s⟩ := t
      dsimp only at *
      go_upto_block 1 with fail
      go_cut [5] (fun b wx => ∃ F' bo' n' cap', b = .slice bo' n' cap' ∧ Both w wx p F' bo' n' cap' (L ++ Thing.enc ⟨kind, N1, ys, s⟩) (L ++ Thing.enc ⟨kind, N1, ys, s⟩))
      case first =>
        go_upto_block 2 with fail
        generalize wr.alloc (.cells #[.int .u8 (kind.toNat : Int), .int .u64 (N1 : Int), .slice ao ys.length ac, .string s] 45) = wa at *
        generalize wr.heap.size = T at *
        have k0 := heap_cell hw 0
        have k1 := heap_cell hw 1
        have k2 := heap_cell hw 2
        have k3 := heap_cell hw 3
        simp at k0 k1 k2 k3
        have HK := Lib.hid (And.intro hba (And.intro hw (And.intro hTF (And.intro hTb (And.intro hys (And.intro hao het))))))
        have hL46 : L.length ≤ 70368744177664 := by omega
        have hn46 : L.length ≤ 70368744177664 := by omega
        have e1 : (N1 : Int) % 256 = ((N1 % 256 : Nat) : Int) := by omega
        have e2 : (N1 : Int) % 65536 = ((N1 % 65536 : Nat) : Int) := by omega
        have e4 : (N1 : Int) % 4294967296 = ((N1 % 4294967296 : Nat) : Int) := by omega
        have E := Lib.hid (And.intro e1 (And.intro e2 e4))
        clear hba hw hTF hTb hys hao het c0 c1 c2 c3 hcell hes hab hz1 hb e1 e2 e4
        have hkd : (kind.toNat : Int) % 6 = 0 ∨ (kind.toNat : Int) % 6 = 1 ∨ (kind.toNat : Int) % 6 = 2 ∨ (kind.toNat : Int) % 6 = 3 ∨ (kind.toNat : Int) % 6 = 4 ∨ (kind.toNat : Int) % 6 = 5 := by omega
        generalize hkk : (kind.toNat : Int) % 6 = kd at *
        have HKK := Lib.hid hkk
        clear hkk
        rcases hkd with rfl | rfl | rfl | rfl | rfl | rfl
        · have HEN := Lib.hid (show Thing.enc ⟨kind, N1, ys, s⟩ = be 1 (N1 % 256) by unfold Thing.enc; dsimp only; simp only [show kind.toNat % 6 = 0 by have := HKK.out; omega]; rfl)
          go_wp2_with (first
            | (go_at_call 34; (with_reducible refine (u8_anyI p L F (N1 % 256) _ _ HK.out.1.wr (by first | omega | (rw [IntKind.wrap_u16]; omega) | (rw [IntKind.wrap_u64, IntKind.wrap_u16]; omega)) (by omega) hL46).mono ?_); rintro e w1 ⟨rfl, hn⟩; obtain ⟨F2, hB2, hw2⟩ := put_next HK.out.1 HK.out.2.1 HK.out.2.2.1 hn; have q1 := heap_cell hw2 1; have q2 := heap_cell hw2 2; have q3 := heap_cell hw2 3; simp at q1 q2 q3; have H2 := Lib.hid (And.intro hB2 hw2); clear hn hB2 hw2)
            | (go_at_call 35; (with_reducible refine (put_anyI bo _ cap L (N1 % 256) 1 _ _ _ H2.out.1.own hn46 (by first | omega | (rw [IntKind.wrap_u16]; omega) | (rw [IntKind.wrap_u64, IntKind.wrap_u16]; omega)) (by omega) (by omega) (by omega)).mono ?_); rintro e w3 ⟨xo, xc, rfl, hx⟩; have H3 := Lib.hid (H2.out.1.slid hx); clear hx))
          go_meet
          exact ⟨_, _, _, _, rfl, by rw [HEN.out]; exact H3.out⟩
        · have HEN := Lib.hid (show Thing.enc ⟨kind, N1, ys, s⟩ = be 2 (N1 % 65536) by unfold Thing.enc; dsimp only; simp only [show kind.toNat % 6 = 1 by have := HKK.out; omega]; rfl)
          go_wp2_with (first
            | (go_at_call 28; (with_reducible refine (u16_anyI p L F (N1 % 65536) _ _ HK.out.1.wr (by first | omega | (rw [IntKind.wrap_u16]; omega) | (rw [IntKind.wrap_u64, IntKind.wrap_u16]; omega)) (by omega) hL46).mono ?_); rintro e w1 ⟨rfl, hn⟩; obtain ⟨F2, hB2, hw2⟩ := put_next HK.out.1 HK.out.2.1 HK.out.2.2.1 hn; have q1 := heap_cell hw2 1; have q2 := heap_cell hw2 2; have q3 := heap_cell hw2 3; simp at q1 q2 q3; have H2 := Lib.hid (And.intro hB2 hw2); clear hn hB2 hw2)
            | (go_at_call 35; (with_reducible refine (put_anyI bo _ cap L (N1 % 65536) 2 _ _ _ H2.out.1.own hn46 (by first | omega | (rw [IntKind.wrap_u16]; omega) | (rw [IntKind.wrap_u64, IntKind.wrap_u16]; omega)) (by omega) (by omega) (by omega)).mono ?_); rintro e w3 ⟨xo, xc, rfl, hx⟩; have H3 := Lib.hid (H2.out.1.slid hx); clear hx))
          go_meet
          exact ⟨_, _, _, _, rfl, by rw [HEN.out]; exact H3.out⟩
        · have HEN := Lib.hid (show Thing.enc ⟨kind, N1, ys, s⟩ = be 4 (N1 % 4294967296) by unfold Thing.enc; dsimp only; simp only [show kind.toNat % 6 = 2 by have := HKK.out; omega]; rfl)
          go_wp2_with (first
            | (go_at_call 36; (with_reducible refine (u32_anyI p L F (N1 % 4294967296) _ _ HK.out.1.wr (by first | omega | (rw [IntKind.wrap_u16]; omega) | (rw [IntKind.wrap_u64, IntKind.wrap_u16]; omega)) (by omega) hL46).mono ?_); rintro e w1 ⟨rfl, hn⟩; obtain ⟨F2, hB2, hw2⟩ := put_next HK.out.1 HK.out.2.1 HK.out.2.2.1 hn; have q1 := heap_cell hw2 1; have q2 := heap_cell hw2 2; have q3 := heap_cell hw2 3; simp at q1 q2 q3; have H2 := Lib.hid (And.intro hB2 hw2); clear hn hB2 hw2)
            | (go_at_call 35; (with_reducible refine (put_anyI bo _ cap L (N1 % 4294967296) 4 _ _ _ H2.out.1.own hn46 (by first | omega | (rw [IntKind.wrap_u16]; omega) | (rw [IntKind.wrap_u64, IntKind.wrap_u16]; omega)) (by omega) (by omega) (by omega)).mono ?_); rintro e w3 ⟨xo, xc, rfl, hx⟩; have H3 := Lib.hid (H2.out.1.slid hx); clear hx))
          go_meet
          exact ⟨_, _, _, _, rfl, by rw [HEN.out]; exact H3.out⟩
        · have HEN := Lib.hid (show Thing.enc ⟨kind, N1, ys, s⟩ = be 8 (N1) by unfold Thing.enc; dsimp only; simp only [show kind.toNat % 6 = 3 by have := HKK.out; omega]; rfl)
          go_wp2_with (first
            | (go_at_call 37; (with_reducible refine (u64_any p L F N1 _ HK.out.1.wr hn64 hL46).mono ?_); rintro e w1 ⟨rfl, hn⟩; obtain ⟨F2, hB2, hw2⟩ := put_next HK.out.1 HK.out.2.1 HK.out.2.2.1 hn; have q1 := heap_cell hw2 1; have q2 := heap_cell hw2 2; have q3 := heap_cell hw2 3; simp at q1 q2 q3; have H2 := Lib.hid (And.intro hB2 hw2); clear hn hB2 hw2)
            | (go_at_call 35; (with_reducible refine (put_anyI bo _ cap L (N1) 8 _ _ _ H2.out.1.own hn46 (by first | omega | (rw [IntKind.wrap_u16]; omega) | (rw [IntKind.wrap_u64, IntKind.wrap_u16]; omega)) (by omega) (by omega) (by omega)).mono ?_); rintro e w3 ⟨xo, xc, rfl, hx⟩; have H3 := Lib.hid (H2.out.1.slid hx); clear hx))
          go_meet
          exact ⟨_, _, _, _, rfl, by rw [HEN.out]; exact H3.out⟩
        · have HEN := Lib.hid (show Thing.enc ⟨kind, N1, ys, s⟩ = be 4 ys.length ++ ys by unfold Thing.enc; dsimp only; simp only [show kind.toNat % 6 = 4 by have := HKK.out; omega]; rfl)
          have hy1000 := hsh.1
          have HD := Lib.hid (show ys ≠ [] → ∀ a, ao = some a → a.block ∉ F from fun hz a ha hF => by have := HK.out.2.2.2.2.2.1 hz a ha; have := HK.out.1.new _ hF; omega)
          have HD2 := Lib.hid (show ys ≠ [] → ∀ a, ao = some a → ∀ b, bo = some b → b.block ≠ a.block from fun hz a ha b hb e => by have := HK.out.2.2.2.2.2.1 hz a ha; have := (HK.out.1.newb _ hb).1; omega)
          go_wp2_with (first
            | (go_at_call 32; (with_reducible refine (wbytes_any p L F ao _ ac ys _ HK.out.1.wr rfl HK.out.2.2.2.2.1 HD.out (by omega) (by omega)).mono ?_); rintro e w1 ⟨rfl, hn⟩; have hyy := hn.choose_spec.2.1.bts HK.out.2.2.2.2.1 HD.out; obtain ⟨F2, hB2, hw2⟩ := put_next HK.out.1 HK.out.2.1 HK.out.2.2.1 hn; have q1 := heap_cell hw2 1; have q2 := heap_cell hw2 2; have q3 := heap_cell hw2 3; simp at q1 q2 q3; have H2 := Lib.hid (And.intro hB2 hyy); clear hn hB2 hw2 hyy)
            | (go_at_call 38; (with_reducible refine (putBytes_any bo _ cap L ao _ ac ys _ H2.out.1.own rfl H2.out.2 HD2.out (by omega) (by omega)).mono ?_); rintro e w3 ⟨xo, xc, rfl, hx⟩; have H3 := Lib.hid (H2.out.1.slid hx); clear hx))
          go_meet
          exact ⟨_, _, _, _, rfl, by rw [HEN.out, ← List.append_assoc]; exact H3.out⟩
        · have HEN := Lib.hid (show Thing.enc ⟨kind, N1, ys, s⟩ = be 4 s.size ++ s.data.toList by unfold Thing.enc; dsimp only; simp only [show kind.toNat % 6 = 5 by have := HKK.out; omega]; rfl)
          have hs1000 := hsh.2
          have kt := fun w => run_bytes_of_string (P := Try.prog) w 9 22 5 s Try.underlying9 Try.underlying22 Try.underlying5
          go_wp2_with (first
            | (go_at_call 13; (with_reducible refine (text_any p L F s _ HK.out.1.wr (by omega) (by omega)).mono ?_); rintro e w1 ⟨rfl, hn⟩; obtain ⟨F2, hB2, hw2⟩ := put_next HK.out.1 HK.out.2.1 HK.out.2.2.1 hn; have q1 := heap_cell hw2 1; have q2 := heap_cell hw2 2; have q3 := heap_cell hw2 3; simp at q1 q2 q3; have H2 := Lib.hid (And.intro hB2 hw2); clear hn hB2 hw2))
          have HS := Lib.hid (show s.data.toList.length = s.size from Array.length_toList ..)
          have HD2 := Lib.hid (show s.data.toList ≠ [] → ∀ a, (some (⟨w1.heap.size, 0, none⟩ : Addr)) = some a → ∀ b, bo = some b → b.block ≠ a.block from fun _ a ha b hb e => by cases ha; have := (H2.out.1.own.at_ _ hb).2.1; simp at e; omega)
          go_wp2_with (go_at_call 38; (with_reducible refine (putBytes_any bo _ cap L _ _ _ s.data.toList _ (H2.out.1.alloc _).drew.own HS.out (bytesRow_bts w1 s _ _ _).drew HD2.out (by omega) (by omega)).mono ?_); rintro e w3 ⟨xo, xc, rfl, hx⟩; have H3 := Lib.hid ((H2.out.1.alloc _).drew.slid hx); clear hx)
          go_meet
          exact ⟨_, _, _, _, rfl, by rw [HEN.out, ← List.append_assoc]; exact H3.out⟩
      case rest =>
        obtain ⟨F', bo', n', cap', rfl, hB⟩ := hcut
        rw [← het] at hB
        have HB := Lib.hid hB
        clear hB hb hTF hTb hab hes hcell hz1 c0 c1 c2 c3
        go_wp2
        go_roundg (gk - 1)
        case measure => omega
        case rel => exact ⟨k + 1, F', bo', n', cap', by omega, by go_num, rfl, HB.out⟩
    · go_wp2
      go_ret2
      have : encs (l.take k) = encs l := by rw [List.take_of_length_le (by rw [HH.out.2.2]; omega)]
      rw [this] at hb
      exact ⟨p, F, bo, n, cap, rfl, hb⟩
end Go.Proofs.Ytgodnlcjbfdkhaa
