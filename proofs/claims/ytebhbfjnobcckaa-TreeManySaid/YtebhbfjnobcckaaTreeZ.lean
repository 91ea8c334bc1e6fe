/-
  THE LAW TreeMany OF LAYER 6, WALKED.
-/
import Derived.Test.YtebhbfjnobcckaaTreeY
import Derived.Deep.CutBlock
import Derived.Lib.ConvBytes
namespace Go.Proofs.Ytebhbfjnobcckaa
open Go Go.RowKit

/-- The i-th key. -/
def mkey (i : Nat) : ByteArray := ⟨#[109, UInt8.ofNat (97 + i / 16), UInt8.ofNat (97 + i % 16)]⟩
theorem mkey_inj {i j : Nat} (hi : i < 256) (hj : j < 256) (h : mkey i = mkey j) : i = j := by
  unfold mkey at h
  injection h with h
  simp at h
  obtain ⟨h1, h2⟩ := h
  have e1 := congrArg UInt8.toNat h1
  have e2 := congrArg UInt8.toNat h2
  simp [UInt8.toNat_ofNat'] at e1 e2
  omega
/-- What both trees are behind i keys. -/
structure Keys (ps : List Pl) (i : Nat) : Prop where
  len : ps.length = i
  key : ∀ x ∈ ps, ∃ j, j < i ∧ x.key = mkey j
theorem Keys.nil : Keys [] 0 := ⟨rfl, by simp⟩
theorem Keys.next {ps : List Pl} {i own : Nat} (h : Keys ps i) (hi : i < 256) : putP ps (mkey i) [] 0 own = (insP ps ⟨mkey i, [], 1, own⟩, 1, 0) ∧ Keys (insP ps ⟨mkey i, [], 1, own⟩) (i + 1) := by
  have hl : lookP ps (mkey i) = none := look_none (fun x hx h0 => by
    obtain ⟨j, hj, hk⟩ := h.key x hx
    have := cmpB_zero.1 h0
    rw [hk] at this
    have := mkey_inj (by omega) hi this
    omega)
  have hs : (mkey i).size = 3 := rfl
  have hlen := h.len
  refine ⟨?_, by rw [insP_len, hlen], fun x hx => ?_⟩
  · unfold putP
    rw [hl, hs, if_neg (by omega), if_neg (by simp)]
    dsimp only
    rw [if_neg (by simp), if_neg (by omega)]
  · rcases insP_mem.1 hx with rfl | hx
    · exact ⟨i, by omega, rfl⟩
    · obtain ⟨j, hj, hk⟩ := h.key x hx
      exact ⟨j, by omega, hk⟩
theorem putA (w0 : World) (p q : Nat) (ps rs : List Pl) (F G : List Nat) (key : ByteArray) (vo : Option Addr) (m c : Nat) (val : List UInt8) (WANT OWN : Int) (want own : Nat) (w : World) (h : Pair w0 w p q ps rs F G) (hv : Bts w vo val) (hm : val.length = m) (hw : want < 18446744073709551616) (ho : own < 18446744073709551616) (hW : WANT = (want : Int)) (hO : OWN = (own : Int)) :
    Calls Try.prog 12 #[.pointer (some ⟨p, 0, none⟩), .string key, .slice vo m c, .int .u64 WANT, .int .u64 OWN] w fun r w' => r = .returned (.tuple #[.int .u64 ((putP ps key val want own).2.1 : Int), .int .i64 (putP ps key val want own).2.2]) ∧ ∃ F', Pair w0 w' p q (putP ps key val want own).1 rs F' G ∧ Chg (· ∈ F) w w' := by
  subst hW; subst hO
  refine (put_all p ps F key vo m c val want own w h.a.tree h.a.fine hv hm hw).mono ?_
  rintro r w' ⟨rfl, hw⟩
  obtain ⟨F', h1, h2, _⟩ := h.stepA hw (h.a.fine.puts key val want own ho)
  exact ⟨rfl, F', h1, h2⟩
theorem putB (w0 : World) (p q : Nat) (ps rs : List Pl) (F G : List Nat) (key : ByteArray) (vo : Option Addr) (m c : Nat) (val : List UInt8) (WANT OWN : Int) (want own : Nat) (w : World) (h : Pair w0 w p q ps rs F G) (hl : rs.length ≤ 256) (hv : Bts w vo val) (hm : val.length = m) (hw : want < 18446744073709551616) (hW : WANT = (want : Int)) (hO : OWN = (own : Int)) :
    Calls Try.prog 18 #[.pointer (some ⟨q, 0, none⟩), .string key, .slice vo m c, .int .u64 WANT, .int .u64 OWN] w fun r w' => r = .returned (.tuple #[.int .u64 ((putR rs key val want own).2.1 : Int), .int .i64 (putR rs key val want own).2.2]) ∧ ∃ G', Pair w0 w' p q ps (putR rs key val want own).1 F G' ∧ Chg (· ∈ G) w w' := by
  subst hW; subst hO
  refine (rput_all q rs G key vo m c val want own w h.b hl hv hm hw).mono ?_
  rintro r w' ⟨rfl, hw⟩
  obtain ⟨G', h1, h2, _⟩ := h.stepB hw
  exact ⟨rfl, G', h1, h2⟩
def StrIs (s : ByteArray) (cs : List Value) : Prop := cs = [.string s]
theorem bw_below (w : World) (e : TypeId) (s : ByteArray) : Below w.heap.size w (Lib.bytesWorld w e s) :=
  ⟨rfl, rfl, rfl, by rw [Lib.bytesWorld_size]; omega, fun k hk => Lib.bytesWorld_at_old w e s k hk⟩
theorem bw_bts (w : World) (e : TypeId) (s : ByteArray) : Bts (Lib.bytesWorld w e s) (some ⟨w.heap.size, 0, none⟩) s.data.toList := by
  intro _
  refine ⟨_, 0, rfl, fun i v hv => ?_⟩
  rw [List.getElem?_map] at hv
  cases hi : s.data.toList[i]? with
  | none => rw [hi] at hv; cases hv
  | some c =>
    rw [hi] at hv
    cases hv
    have hil := (List.getElem?_eq_some_iff.1 hi).1
    rw [Array.length_toList] at hil
    rw [Nat.zero_add, Lib.bytesWorld_cell w e s i hil, List.getD_eq_getElem?_getD, hi]
    rfl
theorem dropA (w0 : World) (p q : Nat) (ps rs : List Pl) (F G : List Nat) (own : Nat) (w : World) (h : Pair w0 w p q ps rs F G) :
    Calls Try.prog 19 #[.pointer (some ⟨p, 0, none⟩), .int .u64 (own : Int)] w fun r w' => r = .returned (.tuple #[]) ∧ ∃ F', Pair w0 w' p q (dropP ps own) rs F' G := by
  refine (drop_all p ps F own w h.a.tree h.a.fine).mono ?_
  rintro r w' ⟨rfl, hw⟩
  obtain ⟨F', h1, _⟩ := h.stepA hw (h.a.fine.drops own)
  exact ⟨rfl, F', h1⟩
theorem dropB (w0 : World) (p q : Nat) (ps rs : List Pl) (F G : List Nat) (own : Nat) (w : World) (h : Pair w0 w p q ps rs F G) (hl : rs.length ≤ 256) :
    Calls Try.prog 20 #[.pointer (some ⟨q, 0, none⟩), .int .u64 (own : Int)] w fun r w' => r = .returned (.tuple #[]) ∧ ∃ G', Pair w0 w' p q ps (dropP rs own) F G' := by
  refine (rdrop_any q rs G own w h.b hl).mono ?_
  rintro r w' ⟨rfl, hw⟩
  obtain ⟨G', h1, _⟩ := h.stepB hw
  exact ⟨rfl, G', h1⟩
set_option maxHeartbeats 8000000 in
set_option maxRecDepth 100000 in
theorem treeMany_any (po : Option Addr) (m d : Nat) (ks : List ByteArray) (owner : Nat) (w : World) (hpl : ks.length = m) (hp : RowOf w po 1 StrIs ks) (hpm : m ≤ maxLen) (how : owner < 18446744073709551616) :
    Calls Try.prog 5 #[.slice po m d, .int .u64 (owner : Int)] w fun e w' => e = .returned (.bool true) ∧ Below w.heap.size w w' := by
  have HH := Lib.hid (And.intro hpl hp)
  clear hpl hp
  unfold maxLen at hpm
  go_enter Try.func5, Try.ntmps5
  go_wp2_with fail
  (with_reducible refine (awake _).mono ?_)
  rintro e1 w1 ⟨rfl, hb1⟩
  have H1 := Lib.hid hb1
  clear hb1
  go_wp2_with fail
  (with_reducible refine (new_in w _ H1.out).mono ?_)
  rintro e2 w2 ⟨p, rfl, _, hn2⟩
  have H2 := Lib.hid (rnew_pair hn2)
  clear hn2
  go_upto_block 0 with fail
  generalize w2.alloc (.cells #[.slice none 0 0] 45) = wa at *
  generalize w2.heap.size = q at *
  go_cut [] (fun wx => ∃ (ps rs : List Pl) (F G : List Nat), Pair w wx p q ps rs F G ∧ Like ps rs)
  case first =>
    -- BEGIN1
    as_aux_lemma =>
      go_wp2_with fail
      go_loopg [24] 256 (fun g v wr => ∃ (k : Nat) (ps rs : List Pl) (F G : List Nat), g + k = 256 ∧ v = .int .i64 k ∧ Pair w wr p q ps rs F G ∧ Like ps rs ∧ Keys ps k)
      case atStart => exact ⟨0, [], [], _, _, rfl, rfl, H2.out, List.Perm.refl _, Keys.nil⟩
      case round =>
        obtain ⟨k, ps, rs, F, G, hgk, rfl, hpair, hlike, hkeys⟩ := hrel
        have HN := Lib.hid (And.intro hpair (And.intro hlike hkeys))
        clear hpair hlike hkeys H1 H2
        by_cases hk : k < 256
        · have hkI : (k : Int) < 256 := by omega
          obtain ⟨c1, c2, hc1, hc2, hmk⟩ : ∃ c1 c2 : UInt8, (c1.toNat : Int) = 97 + (k : Int) / 16 ∧ (c2.toNat : Int) = 97 + (k : Int) % 16 ∧ (⟨#[109]⟩ : ByteArray) ++ strOf [c1, c2] = mkey k := ⟨UInt8.ofNat (97 + k / 16), UInt8.ofNat (97 + k % 16), by simp [UInt8.toNat_ofNat']; omega, by simp [UInt8.toNat_ofNat']; omega, rfl⟩
          have hkc := conv_bytes (wr.alloc (.cells #[.int .u8 (97 + (k : Int) / 16), .int .u8 (97 + (k : Int) % 16)] 5)) Try.underlying27 Try.underlying5 Try.underlying9 (some ⟨wr.heap.size, 0, none⟩) 2 2 [c1, c2] rfl (Bts.alloc wr _ _ _ _ (by simp [cb, hc1, hc2]))
          have HMK := Lib.hid hmk
          have hku := IntWalk.u64_in ((k : Int) % 5) (by omega)
          have HB := Lib.hid (HN.out.1.stays ((Below.refl _ wr).alloc (Nat.le_refl _) (.cells #[.int .u8 (97 + (k : Int) / 16), .int .u8 (97 + (k : Int) % 16)] 5)))
          have HKN := Lib.hid (HN.out.2.2.next (own := k % 5) hk)
          have HLK := Lib.hid (like_put HN.out.2.1 HN.out.1.a.fine.sorted (mkey k) [] 0 (k % 5))
          have hrl : rs.length ≤ 256 := by have := HN.out.2.1.len; have := HN.out.2.2.len; omega
          clear hc1 hc2 hmk
          go_wp2_with fail
          rw [HMK.out]
          (with_reducible refine (putA w p q ps rs F G (mkey k) none 0 0 [] 0 ((k : Int) % 5) 0 (k % 5) _ HB.out (Bts.nil _ _) rfl (by decide) (by omega) rfl (by omega)).mono ?_)
          rintro r w3 ⟨rfl, F3, h3, _⟩
          have H3 := Lib.hid h3
          clear h3
          rw [HKN.out.1]
          clear hkc
          go_wp2_with fail
          (with_reducible refine (putB w p q _ rs F3 G (mkey k) none 0 0 [] 0 ((k : Int) % 5) 0 (k % 5) _ H3.out hrl (Bts.nil _ _) rfl (by decide) rfl (by omega)).mono ?_)
          rintro r w4 ⟨rfl, G4, h4, _⟩
          have hlk := HLK.out
          rw [HKN.out.1] at hlk h4
          rw [hlk.2]
          have H4 := Lib.hid (And.intro h4 hlk.1)
          clear h4 hlk
          go_wp2
          go_roundg (gk - 1)
          case measure => omega
          case rel => exact ⟨k + 1, _, _, F3, G4, by omega, by go_num, H4.out.1, H4.out.2, HKN.out.2⟩
        · go_wp2
          go_meet
          exact ⟨ps, rs, F, G, HN.out.1, HN.out.2.1⟩
    -- END1
  case rest =>
    -- BEGIN2
    as_aux_lemma =>
      obtain ⟨ps, rs, F, G, h5, hl5⟩ := hcut
      have H5 := Lib.hid (And.intro h5 hl5)
      clear h5 hl5 H1 H2
      go_upto_block 2 with fail
      go_cut [] (fun wx => ∃ (ps rs : List Pl) (F G : List Nat), Pair w wx p q ps rs F G ∧ Like ps rs)
      case first =>
        -- BEGIN3
        as_aux_lemma =>
          go_wp2_with fail
          go_loopg [71] m (fun g v wr => ∃ (k : Nat) (ps rs : List Pl) (F G : List Nat), g + k = m ∧ v = .int .i64 k ∧ Pair w wr p q ps rs F G ∧ Like ps rs)
          case atStart => exact ⟨0, ps, rs, F, G, by omega, rfl, H5.out⟩
          case round =>
            clear H5
            obtain ⟨k, ps, rs, F, G, hgk, rfl, hpair, hlike⟩ := hrel
            have HN := Lib.hid (And.intro hpair hlike)
            clear hpair hlike
            by_cases hk : k < m
            · obtain ⟨b, off, rfl, hz1⟩ := HH.out.2 (by rw [HH.out.1]; omega)
              have hkl : k < ks.length := by rw [HH.out.1]; exact hk
              obtain ⟨es, hes, rfl, hcell⟩ := hz1 k hkl
              have c0 := (Chg.of_below HN.out.1.a.below (fun _ => False)).cell (hcell 0 _ rfl) (fun h => h)
              simp only [Nat.add_zero, Nat.mul_one] at c0
              generalize ks[k] = s at *
              clear hcell hz1 hes hkl
              by_cases h8 : 8 < k
              · have i1 : (8 : Int) < (k : Int) := by omega
                go_wp2
                go_meet
                exact ⟨ps, rs, F, G, HN.out⟩
              have i1 : ¬ (8 : Int) < (k : Int) := by omega
              by_cases h200 : 200 < s.size
              · have i2 : (200 : Int) < (s.size : Int) := by omega
                go_wp2
                go_meet
                exact ⟨ps, rs, F, G, HN.out⟩
              have i2 : ¬ (200 : Int) < (s.size : Int) := by omega
              have hcv := fun w : World => Lib.run_convert_string_bytes (P := Try.prog) w 9 27 5 s Try.underlying9 Try.underlying27 Try.underlying5
              have HBW := Lib.hid (fun w : World => And.intro (bw_below w 5 s) (bw_bts w 5 s))
              have HLK := Lib.hid (like_put HN.out.2 HN.out.1.a.fine.sorted s s.data.toList 0 owner)
              have hrl : rs.length ≤ 256 := by have := HN.out.2.len; have := HN.out.1.a.fine.len; omega
              go_wp2_with fail
              (with_reducible refine (putA w p q ps rs F G s _ s.size _ s.data.toList 0 (owner : Int) 0 owner _ (HN.out.1.stays (HBW.out _).1) (HBW.out _).2 Array.length_toList (by decide) how rfl rfl).mono ?_)
              rintro r w3 ⟨rfl, F3, h3, _⟩
              have H3 := Lib.hid h3
              clear h3
              go_wp2_with fail
              (with_reducible refine (putB w p q _ rs F3 G s _ s.size _ s.data.toList 0 (owner : Int) 0 owner _ (H3.out.stays (HBW.out _).1) hrl (HBW.out _).2 Array.length_toList (by decide) rfl rfl).mono ?_)
              rintro r w4 ⟨rfl, G4, h4, _⟩
              rw [HLK.out.2]
              have H4 := Lib.hid (And.intro h4 HLK.out.1)
              clear h4
              generalize (putP ps s s.data.toList 0 owner).1 = ps4 at *
              generalize (putR rs s s.data.toList 0 owner).1 = rs4 at *
              by_cases ho : k % 2 = 1
              · have hoi : (k : Int) % 2 = 1 := by omega
                have hr4 : rs4.length ≤ 256 := by have := H4.out.2.len; have := H4.out.1.a.fine.len; omega
                go_wp2_with fail
                (with_reducible refine (dropA w p q ps4 rs4 F3 G4 owner _ H4.out.1).mono ?_)
                rintro r w5 ⟨rfl, F5, h5⟩
                have H5 := Lib.hid h5
                clear h5
                go_wp2_with fail
                (with_reducible refine (dropB w p q _ rs4 F5 G4 owner _ H5.out hr4).mono ?_)
                rintro r w6 ⟨rfl, G6, h6⟩
                have H6 := Lib.hid (And.intro h6 (like_drop H4.out.2 owner))
                clear h6
                go_wp2
                go_roundg (gk - 1)
                case measure => omega
                case rel => exact ⟨k + 1, _, _, F5, G6, by omega, by go_num, H6.out⟩
              · have hoi : ((k : Int) % 2 == 1) = false := by simp; omega
                have hoj : ¬ (k : Int) % 2 = 1 := by omega
                go_wp2
                go_roundg (gk - 1)
                case measure => omega
                case rel => exact ⟨k + 1, _, _, F3, G4, by omega, by go_num, H4.out⟩
            · go_wp2
              go_meet
              exact ⟨ps, rs, F, G, HN.out⟩
        -- END3
      case rest =>
        obtain ⟨ps, rs, F, G, h6, hl6⟩ := hcut
        go_wp2_with fail
        (with_reducible refine (shows_any w p q ps rs F G _ h6 hl6).mono ?_)
        rintro r w7 ⟨rfl, hb7⟩
        have H7 := Lib.hid (h6.stays hb7)
        clear hb7 h6
        go_wp2
        go_ret
        exact ⟨rfl, H7.out.a.below⟩
    -- END2
theorem in_u64 {P : Program} {w : World} {r : Reach} {base : Nat} {t : TypeId} {v : Value} (hu : P.underlying t = some (.int .u64)) (hk : Value.okWide P w r base t v) (h : Rd P w t v.cells.toList) :
    ∃ n : Nat, v = .int .u64 (n : Int) ∧ n < 18446744073709551616 := by
  obtain ⟨n, rfl, h1⟩ := in_int hu hk h
  simp [IntKind.min, IntKind.max, IntKind.signed, IntKind.bits] at h1
  exact ⟨n.toNat, by congr 1; omega, by omega⟩
theorem treeMany_in (W : World) (base : Nat) (v0 v1 : Value) (k0 : Value.okWide Try.prog W .any base 42 v0) (k1 : Value.okWide Try.prog W .any base 26 v1) (r0 : Rd Try.prog W 42 v0.cells.toList) (r1 : Rd Try.prog W 26 v1.cells.toList) :
    Calls Try.prog 5 #[v0, v1] W fun e w' => e = .returned (.bool true) ∧ Below W.heap.size W w' := by
  obtain ⟨po, ks, d, rfl, h4, h5, h6⟩ := in_slice Try.underlying42 (size := 1) (by kernel_rfl) (by decide) StrIs (fun es h => by
    obtain ⟨s, e, _⟩ := h.string Try.underlying9
    exact ⟨s, e⟩) k0 r0
  obtain ⟨n, rfl, hn⟩ := in_u64 Try.underlying26 k1 r1
  exact treeMany_any po _ d ks n W rfl h4 (Nat.le_trans h5 h6) hn
end Go.Proofs.Ytebhbfjnobcckaa
