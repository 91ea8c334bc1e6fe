/-
  LAYER 8: Open: the keeper whose journal stands on a disk.
-/
import Derived.Test.YtackmgmaippajaaGreatMtZa
import Derived.Test.YtackmgmaippajaaGreatMtYb
import Derived.Test.YtackmgmaippajaaGreatMtE
namespace Go.Proofs.YtackmgmaippajaaGreat
open Go Go.RowKit

/-- What Open gives. -/
def OpenK (w : World) (p : Nat) (F : List Nat) (room : Nat) (L : List (List UInt8)) (e : Ending) (w' : World) : Prop :=
  Chg (· ∈ F) w w' ∧ ((rplAll St.new L = none ∧ e = .returned (.tuple #[.pointer none, .int .i64 23])) ∨
    ∃ s k kp bp j F1 F2 G, rplAll St.new L = some s ∧ s.Wk ∧ e = .returned (.tuple #[.pointer (some ⟨k, 0, none⟩), .int .i64 0]) ∧ KeepAt w' k p s ⟨room, (Jr.frames L).length, Jr.frames L⟩ kp bp j F1 F2 G ∧ ∀ i ∈ keepB k j F1 F2 G, i ∈ F ∨ w.heap.size ≤ i)
/-- Where the loop over records stands. -/
structure OpL (w1 wr : World) (j K : Nat) (es : List Jr.BEnt) (k : Nat) (s : St) (kp bp : Nat) (F1 F2 : List Nat) : Prop where
  le : k ≤ es.length
  st : StAt wr K #[.int .u64 (s.now : Int), .pointer (some ⟨kp, 0, none⟩), .pointer (some ⟨bp, 0, none⟩), .pointer (some ⟨j, 0, none⟩)] 112 s kp bp F1 F2
  wk : s.Wk
  rpl : rplAll St.new ((es.take k).map Jr.BEnt.bs) = some s
  below : Below w1.heap.size w1 wr
  newK : w1.heap.size ≤ K
  new1 : ∀ i ∈ F1, w1.heap.size ≤ i
  new2 : ∀ i ∈ F2, w1.heap.size ≤ i
theorem OpL.bad {w1 wr : World} {j K k kp bp : Nat} {es : List Jr.BEnt} {s : St} {F1 F2 : List Nat} (h : OpL w1 wr j K es k s kp bp F1 F2) {e : Jr.BEnt} (he : es[k]? = some e) (hb : rplS s e.bs = none) : rplAll St.new (es.map Jr.BEnt.bs) = none := by
  have h1 : es = es.take k ++ (e :: es.drop (k + 1)) := by
    obtain ⟨hk, rfl⟩ := List.getElem?_eq_some_iff.1 he
    rw [← List.drop_eq_getElem_cons hk, List.take_append_drop]
  rw [h1, List.map_append, rplAll_app, h.rpl]
  simp only [List.map_cons, rplAll, hb]
theorem OpL.next {w1 wr w6 : World} {j K k kp bp : Nat} {es : List Jr.BEnt} {s s' : St} {F1 F2 : List Nat} (h : OpL w1 wr j K es k s kp bp F1 F2) {e : Jr.BEnt} (he : es[k]? = some e) (hl : e.bs.length ≤ 5000) (hb : rplS s e.bs = some s') (hc : Chg (fun i => i = K ∨ i ∈ F1 ∨ i ∈ F2) wr w6)
    (hn : RplNow wr.heap.size w6 K #[.int .u64 (s.now : Int), .pointer (some ⟨kp, 0, none⟩), .pointer (some ⟨bp, 0, none⟩), .pointer (some ⟨j, 0, none⟩)] 112 s' F1 F2) : ∃ kp' bp' F1' F2', OpL w1 w6 j K es (k + 1) s' kp' bp' F1' F2' := by
  obtain ⟨kp', bp', F1', F2', hs, g1, g2⟩ := hn
  have hsz := h.below.size
  refine ⟨kp', bp', F1', F2', ⟨(List.getElem?_eq_some_iff.1 he).1, hs, rplS_wk h.wk hl hb, ?_, h.below.trans (hc.below hsz (fun i hi => ?_)), h.newK, fun i hi => (g1 i hi).elim (h.new1 i) (fun q => by omega), fun i hi => (g2 i hi).elim (h.new2 i) (fun q => by omega)⟩⟩
  · rw [List.take_add_one, he, List.map_append, rplAll_app, h.rpl]
    simp [rplAll, hb]
  · rcases hi with rfl | hi | hi
    · exact h.newK
    · exact h.new1 i hi
    · exact h.new2 i hi
theorem OpL.chg {w1 wr : World} {j K k kp bp : Nat} {es : List Jr.BEnt} {s : St} {F1 F2 : List Nat} (h : OpL w1 wr j K es k s kp bp F1 F2) : Chg (fun i => i = K ∨ i ∈ F1 ∨ i ∈ F2) w1 wr := Chg.of_below h.below _
section
variable {s : St} {K : Nat} {cs : Array Value} {t : TypeId} {F1 F2 : List Nat} {v : Value} {bs : List UInt8} {w : World}
theorem rpl_no (h : Calls Tryz.prog 44 #[.pointer (some ⟨K, 0, none⟩), v] w fun e w' => Chg (fun k => k = K ∨ k ∈ F1 ∨ k ∈ F2) w w' ∧
      ((rplS s bs = none ∧ ∃ code : Int, code ≠ 0 ∧ e = .returned (.int .i64 code)) ∨ ∃ s', rplS s bs = some s' ∧ e = .returned (.int .i64 0) ∧ RplNow w.heap.size w' K cs t s' F1 F2)) (hn : rplS s bs = none) :
    Calls Tryz.prog 44 #[.pointer (some ⟨K, 0, none⟩), v] w fun e w' => ∃ code : Int, code ≠ 0 ∧ e = .returned (.int .i64 code) ∧ Chg (fun k => k = K ∨ k ∈ F1 ∨ k ∈ F2) w w' := by
  refine h.mono ?_
  rintro e w' ⟨hc, ⟨_, code, h0, he⟩ | ⟨s', hs, _⟩⟩
  · exact ⟨code, h0, he, hc⟩
  · rw [hn] at hs; cases hs
theorem rpl_yes {s' : St} (h : Calls Tryz.prog 44 #[.pointer (some ⟨K, 0, none⟩), v] w fun e w' => Chg (fun k => k = K ∨ k ∈ F1 ∨ k ∈ F2) w w' ∧
      ((rplS s bs = none ∧ ∃ code : Int, code ≠ 0 ∧ e = .returned (.int .i64 code)) ∨ ∃ s', rplS s bs = some s' ∧ e = .returned (.int .i64 0) ∧ RplNow w.heap.size w' K cs t s' F1 F2)) (hn : rplS s bs = some s') :
    Calls Tryz.prog 44 #[.pointer (some ⟨K, 0, none⟩), v] w fun e w' => e = .returned (.int .i64 0) ∧ Chg (fun k => k = K ∨ k ∈ F1 ∨ k ∈ F2) w w' ∧ RplNow w.heap.size w' K cs t s' F1 F2 := by
  refine h.mono ?_
  rintro e w' ⟨hc, ⟨hs, _⟩ | ⟨s2, hs, he, hnw⟩⟩
  · rw [hn] at hs; cases hs
  · rw [hn] at hs; cases hs; exact ⟨he, hc, hnw⟩
end
-- BEGIN1
set_option maxHeartbeats 4000000 in
set_option maxRecDepth 100000 in
theorem meta_open (p : Nat) (d : Jr.Dsk) (F : List Nat) (L : List (List UInt8)) (r : List UInt8) (w : World) (h : Jr.DiskAt 102 w p d F) (hr : Jr.Recs d.b L r) (hm : d.b.length ≤ 1000000) :
    Calls Tryz.prog 14 #[.pointer (some ⟨p, 0, none⟩)] w (OpenK w p F d.room L) := by
  have HO := Lib.hid (Jr.open_any2 p d F L r w h hr hm)
  have HSH := Lib.hid hr.short
  have HLL := Lib.hid (show L.length ≤ 1000000 by
    have h1 := congrArg List.length hr.is
    rw [List.length_append] at h1
    have h3 : ∀ (M : List (List UInt8)), 8 * M.length ≤ (Jr.frames M).length := by
      intro M
      induction M with
      | nil => simp [Jr.frames]
      | cons x M ih => rw [Jr.frames_cons, List.length_append, frame_len, List.length_cons]; omega
    have h4 := h3 L
    omega)
  clear h hr hm
  go_enter Tryz.func14, Tryz.ntmps14
  go_wp2_with fail
  (with_reducible refine HO.out.mono ?_)
  rintro e w1 ⟨j, oo, n, cap, es, G, rfl, hj1, hB, hes, hc1, hg1, hj, hoo, hcp⟩
  have H1 := Lib.hid (And.intro hj1 (And.intro hc1 (And.intro hg1 (And.intro hj (And.intro hB (And.intro hes (And.intro hoo hcp)))))))
  have hnl : n ≤ 1000000 := by have h1 := hB.len; have h2 := HLL.out; rw [← hes, List.length_map] at h2; omega
  clear hj1 hB hes hc1 hg1 hj hoo hcp HO
  go_wp2_with fail
  (with_reducible refine (fresh_any _).mono ?_)
  rintro e w2 ⟨kp, bp, F1, F2, rfl, hb2, ht2, hk2, n1, n2, dis⟩
  dsimp only [stVal, St.new]
  have H2 := Lib.hid (And.intro hb2 (And.intro ht2 (And.intro hk2 (And.intro n1 (And.intro n2 dis)))))
  clear hb2 ht2 hk2 n1 n2 dis
  go_wp2
  have hb3 := (Below.refl w2.heap.size w2).alloc (Nat.le_refl _) (.cells #[.int .u64 0, .pointer (some ⟨kp, 0, none⟩), .pointer (some ⟨bp, 0, none⟩), .pointer (some ⟨j, 0, none⟩)] 112)
  have hK := heap_top w2 (.cells #[.int .u64 0, .pointer (some ⟨kp, 0, none⟩), .pointer (some ⟨bp, 0, none⟩), .pointer (some ⟨j, 0, none⟩)] 112)
  have H3 := Lib.hid (And.intro hb3 hK)
  clear hb3 hK
  generalize w2.alloc (.cells #[.int .u64 0, .pointer (some ⟨kp, 0, none⟩), .pointer (some ⟨bp, 0, none⟩), .pointer (some ⟨j, 0, none⟩)] 112) = w3 at *
  have hL0 : OpL w1 w3 j w2.heap.size es 0 St.new kp bp F1 F2 := by
    have l1 := H2.out.2.1.lt
    have l2 := H2.out.2.2.1.lt
    have hC3 := Chg.of_below H3.out.1 (fun _ => False)
    exact ⟨Nat.zero_le _, ⟨H3.out.2, rfl, rfl, rfl, H2.out.2.1.keep hC3 (fun _ _ h => h), H2.out.2.2.1.keep hC3 (fun _ _ h => h), fun h => Nat.lt_irrefl _ (l1 _ h), fun h => Nat.lt_irrefl _ (l2 _ h), H2.out.2.2.2.2.2⟩, St.new_wk, rfl, H2.out.1.trans (H3.out.1.mono H2.out.1.size), H2.out.1.size, H2.out.2.2.2.1, H2.out.2.2.2.2.1⟩
  have HL0 := Lib.hid hL0
  clear hL0
  generalize w2.heap.size = K at *
  go_loopg [25] n (fun g i wr => ∃ k s kp bp F1 F2, g + k = n ∧ i = .int .i64 (k : Int) ∧ OpL w1 wr j K es k s kp bp F1 F2)
  case atStart => exact ⟨0, St.new, kp, bp, F1, F2, rfl, rfl, HL0.out⟩
  case round =>
    obtain ⟨k, s, kp, bp, F1, F2, hgk, rfl, hrel⟩ := hrel
    have HR := Lib.hid hrel
    clear hrel
    have hn := H1.out.2.2.2.2.1.len
    by_cases hk : k < n
    · obtain ⟨x, hx⟩ : ∃ x, es[k]? = some x := ⟨_, List.getElem?_eq_getElem (by omega)⟩
      have hki : (k : Int) < (n : Int) := by omega
      obtain ⟨b, off, hoo, hcell, hbt⟩ := (H1.out.2.2.2.2.1.row.below HR.out.below).at hx
      subst hoo
      have hxm := List.mem_of_getElem? hx
      have hx5 : x.bs.length ≤ 5000 := by
        have := HSH.out x.bs (by rw [← H1.out.2.2.2.2.2.1]; exact List.mem_map_of_mem hxm)
        omega
      have hcap := H1.out.2.2.2.2.2.2.2 x hxm
      have hA : x.bs ≠ [] → ∀ a, x.bo = some a → a.block ≠ K ∧ a.block ∉ F1 ∧ a.block ∉ F2 := fun hz a ha => by
        have h1 := bts_lt (H1.out.2.2.2.2.1.body x hxm) hz a ha
        exact ⟨fun e => by have := HR.out.newK; omega, fun hm => by have := HR.out.new1 _ hm; omega, fun hm => by have := HR.out.new2 _ hm; omega⟩
      have hrp := replay_any s K kp bp _ _ F1 F2 x.bo x.bs.length x.cap x.bs wr HR.out.st HR.out.wk hbt rfl hcap.1 hcap.2 hx5 hA
      have HX := Lib.hid (And.intro hx hx5)
      have HRP := Lib.hid hrp
      clear hx hxm hx5 hcap hA hrp hbt
      cases hrs : rplS s x.bs with
      | none =>
        have HE := Lib.hid (HR.out.bad HX.out.1 hrs)
        have HRN := Lib.hid (rpl_no HRP.out hrs)
        go_wp2_with (go_at_call 44; (with_reducible refine HRN.out.mono ?_); rintro e w6 ⟨code, h0, rfl, hc⟩; have h0b : ((code : Int) != 0) = true := (by simpa using h0); have H6 := Lib.hid hc; clear hc)
        go_ret2
        refine ⟨H1.out.2.1.trans (HR.out.chg.trans H6.out (fun _ _ h => h)) ?_, .inl ⟨by rw [← H1.out.2.2.2.2.2.1]; exact HE.out, rfl⟩⟩
        intro i hi h
        rcases h with rfl | h | h
        · have := HR.out.newK; have := H1.out.2.1.size; omega
        · have := HR.out.new1 i h; have := H1.out.2.1.size; omega
        · have := HR.out.new2 i h; have := H1.out.2.1.size; omega
      | some s' =>
        have HRN := Lib.hid (rpl_yes HRP.out hrs)
        go_wp2_with (go_at_call 44; (with_reducible refine HRN.out.mono ?_); rintro e w6 ⟨rfl, hc, hnw⟩; have H6 := Lib.hid (And.intro hc hnw); clear hc hnw)
        obtain ⟨kp', bp', F1', F2', hnx⟩ := HR.out.next HX.out.1 HX.out.2 hrs H6.out.1 H6.out.2
        go_roundg (gk - 1)
        case measure => omega
        case rel => exact ⟨k + 1, s', kp', bp', F1', F2', by omega, by go_num, hnx⟩
    · obtain rfl : k = n := by omega
      have hki : ¬ ((k : Int) < (k : Int)) := by omega
      go_wp2
      go_ret2
      have hes : es.take k = es := List.take_of_length_le (by omega)
      have hrpl := HR.out.rpl
      rw [hes, H1.out.2.2.2.2.2.1] at hrpl
      have hj2 := H1.out.1.stays HR.out.below
      have hjl := heap_lt H1.out.1.jr
      have hGl := H1.out.1.disk.lt
      have hK1 := HR.out.newK
      have n1 := HR.out.new1
      have n2 := HR.out.new2
      have hw1 := H1.out.2.1.size
      refine ⟨H1.out.2.1.trans (Chg.of_below HR.out.below (fun _ => False)) (fun _ _ h => h.elim), .inr ⟨s, K, kp, bp, j, F1, F2, G, hrpl, HR.out.wk, rfl, ⟨HR.out.st, hj2, fun h => by have := hGl _ h; omega, by omega, fun h => by have := n1 _ h; omega, fun h => by have := n2 _ h; omega, fun i hi h => by have := hGl i hi; have := n1 _ h; omega, fun i hi h => by have := hGl i hi; have := n2 _ h; omega⟩, fun i hi => ?_⟩⟩
      simp only [keepB, List.mem_cons, List.mem_append] at hi
      rcases hi with hi | hi | (hi | hi) | hi
      · exact .inr (by omega)
      · exact .inr (by have := H1.out.2.2.2.1; omega)
      · exact .inr (by have := n1 i hi; omega)
      · exact .inr (by have := n2 i hi; omega)
      · exact H1.out.2.2.1 i hi
-- END1
end Go.Proofs.YtackmgmaippajaaGreat
