/-
  LAYER 7: Expire.
-/
import Derived.Test.YtgcldmmhfleggaaLeaseC
namespace Go.Proofs.Ytgcldmmhfleggaa
open Go Go.RowKit

def idCell (n : Nat) : Value := .int .u64 (n : Int)
def expired (l : List Sess) (now : Nat) : List Nat := (l.filter (fun s => decide (s.ends ≤ now))).map Sess.id
theorem el_u64 : ElemOf Try.prog 33 28 (.int .u64 0) 1 8 := .mk' Try.underlying33 (by kernel_rfl) rfl (by decide)
theorem one_id (l : List Nat) : ∀ u ∈ l.map idCell, u.oneCell' = true := by
  intro u hu
  obtain ⟨b, _, rfl⟩ := List.mem_map.1 hu
  rfl
/-- What an expiry holds on the way: the time, the numbers that went. -/
def GoneAt (now cn co : Nat) (l : List Sess) (F : List Nat) (w : World) : Prop :=
  cn ≠ co ∧ w.heap[cn]? = some (.cells #[.int .u64 (now : Int)] 28 (0, 0)) ∧ ∃ uo m uc, w.heap[co]? = some (.cells #[.slice uo m uc] 33 (0, 0)) ∧ Own w 1 uo m uc ((expired l now).map idCell) ∧ F = cn :: co :: blk uo ∧ cn ∉ blk uo ∧ co ∉ blk uo
theorem expired_len (l : List Sess) (now : Nat) : (expired l now).length ≤ l.length := by
  unfold expired; rw [List.length_map]; exact List.length_filter_le ..
theorem expired_snoc (l : List Sess) (e : Sess) (now : Nat) : expired (l ++ [e]) now = if e.ends ≤ now then expired l now ++ [e.id] else expired l now := by
  unfold expired
  rw [List.filter_append, List.map_append]
  by_cases h : e.ends ≤ now <;> simp [h]
theorem GoneAt.lt {now cn co : Nat} {l : List Sess} {F : List Nat} {w : World} (h : GoneAt now cn co l F w) : ∀ k ∈ F, k < w.heap.size := by
  obtain ⟨h0, h1, uo, m, uc, h2, h3, rfl, h4, h5⟩ := h
  intro k hk
  simp only [List.mem_cons] at hk
  rcases hk with rfl | rfl | hk
  · exact heap_lt h1
  · exact heap_lt h2
  · obtain ⟨a, ha, rfl⟩ := mem_blk.1 hk
    exact (h3.at_ a ha).2.1
theorem GoneAt.keep {now cn co : Nat} {l : List Sess} {F : List Nat} {w w' : World} {S : Nat → Prop} (h : GoneAt now cn co l F w) (hc : Chg S w w') (hS : ∀ k ∈ F, ¬ S k) : GoneAt now cn co l F w' := by
  obtain ⟨h0, h1, uo, m, uc, h2, h3, rfl, h4, h5⟩ := h
  exact ⟨h0, hc.heap h1 (hS cn (by simp)), uo, m, uc, hc.heap h2 (hS co (by simp)), h3.keep hc (fun a ha => hS _ (by simp [mem_blk, ha])), rfl, h4, h5⟩
theorem gone_end {now cn co m uc xc x0 x1 x2 : Nat} {uo xo : Option Addr} {l : List Sess} {F : List Nat} {w wa wb w2 : World} (hg : GoneAt now cn co l F w) (hF : F = cn :: co :: blk uo) (hne : cn ≠ co) (h4 : cn ∉ blk uo) (h5 : co ∉ blk uo) (hcn : wa.heap[cn]? = some (.cells #[.int .u64 (now : Int)] 28 (0, 0)))
    (hA : Chg (fun _ => False) w wa) (hB : Chg (fun _ => False) wa wb) (hov : x1 ≤ now) (hx : Own w2 1 xo (m + 1) xc ((expired l now).map idCell ++ [x0].map idCell)) (hch : Chg (fun k => ∃ a, uo = some a ∧ a.block = k) wb w2) (hx2 : ∀ a', xo = some a' → uo = some a' ∨ wb.heap.size ≤ a'.block) (hp : w2.heap[co]? = some (.cells #[.slice uo m uc] 33 (0, 0))) :
    ∃ F', GoneAt now cn co (l ++ [⟨x0, x1, x2⟩]) F' (w2.setCell ⟨co, 0, none⟩ (.slice xo (m + 1) xc)) ∧ Chg (· ∈ F) w (w2.setCell ⟨co, 0, none⟩ (.slice xo (m + 1) xc)) ∧ ∀ k ∈ F', k ∈ F ∨ w.heap.size ≤ k := by
  have hlt := hg.lt
  have hcnl := hlt cn (by rw [hF]; simp)
  have hcol := hlt co (by rw [hF]; simp)
  have hsz : w.heap.size ≤ wb.heap.size := Nat.le_trans hA.size hB.size
  have hnx : ∀ k, k ∉ blk uo → k < w.heap.size → k ∉ blk xo := by
    intro k h1 h2 hk
    obtain ⟨a, ha, e⟩ := mem_blk.1 hk
    rcases hx2 a ha with h | h
    · exact h1 (mem_blk.2 ⟨a, h, e⟩)
    · omega
  have h1 := hch.heap (hB.heap hcn (fun h => h)) (fun h => h4 (mem_blk.2 h))
  have hs := Chg.one w2 co 0 (.slice xo (m + 1) xc)
  refine ⟨cn :: co :: blk xo, ⟨hne, hs.heap h1 hne, xo, m + 1, xc, heap_set hp 0 _, ?_, rfl, hnx _ h4 hcnl, hnx _ h5 hcol⟩, ?_, ?_⟩
  · rw [expired_snoc, if_pos hov, List.map_append]
    exact hx.keep hs (fun a ha e => hnx _ h5 hcol (mem_blk.2 ⟨a, ha, e⟩))
  · refine (((hA.trans hB (fun _ _ h => h)).to (S' := (· ∈ F)) (fun _ h => h.elim)).trans hch (fun k _ h => ?_)).set (by rw [hF]; simp) 0 _
    rw [hF]
    exact List.mem_cons_of_mem _ (List.mem_cons_of_mem _ (mem_blk.2 h))
  · intro k hk
    simp only [List.mem_cons] at hk
    rcases hk with rfl | rfl | hk
    · exact .inl (by rw [hF]; simp)
    · exact .inl (by rw [hF]; simp)
    · obtain ⟨a, ha, rfl⟩ := mem_blk.1 hk
      rcases hx2 a ha with h | h
      · exact .inl (by rw [hF]; simp [mem_blk, h])
      · exact .inr (Nat.le_trans hsz h)
set_option maxHeartbeats 1000000 in
theorem gone_call (now cn co : Nat) (l : List Sess) (e : Sess) (F : List Nat) (w : World) (h : GoneAt now cn co l F w) (hl : l.length ≤ 1000000) :
    Calls Try.prog 28 #[.agg #[.int .u64 (e.id : Int), .int .u64 (e.ends : Int), .int .u64 (e.life : Int)], .pointer (some ⟨cn, 0, none⟩), .pointer (some ⟨co, 0, none⟩)] w fun r w2 => r = .returned (.bool (decide (e.ends ≤ now))) ∧ ∃ F', GoneAt now cn co (l ++ [e]) F' w2 ∧ Chg (· ∈ F) w w2 ∧ ∀ k ∈ F', k ∈ F ∨ w.heap.size ≤ k := by
  obtain ⟨x0, x1, x2⟩ := e
  dsimp only
  have hA := (Chg.refl (fun _ => False) w).alloc (.cells #[.int .u64 (x0 : Int), .int .u64 (x1 : Int), .int .u64 (x2 : Int)] 48)
  have hg := h.keep hA (fun _ _ h => h)
  have hlt := h.lt
  have hel := expired_len l now
  obtain ⟨h0, h1, uo, m, uc, h2, h3, hF, h4, h5⟩ := hg
  have hml : (expired l now).length = m := by have := h3.len; rw [List.length_map, Nat.mul_one] at this; exact this
  obtain ⟨z0, z1⟩ := cells1 h1
  obtain ⟨y0, y1⟩ := cells1 h2
  have HX := Lib.hid (And.intro h0 (And.intro h1 (And.intro h2 (And.intro h3 (And.intro hF (And.intro h4 (And.intro h5 (And.intro hlt hml))))))))
  have HG := Lib.hid (And.intro h hA)
  have hm1 : m + 1 ≤ maxLen := by unfold maxLen; omega
  have hm2 : (m + 1) * 8 ≤ 140737488355328 := by omega
  clear h h1 h2 h3 hF h4 h5 hlt hel hml hA
  by_cases hov : x1 ≤ now
  · have hovi : (x1 : Int) ≤ (now : Int) := by omega
    have HO := Lib.hid hov
    clear hov
    have hB := (Chg.refl (fun _ => False) (w.alloc (.cells #[.int .u64 (x0 : Int), .int .u64 (x1 : Int), .int .u64 (x2 : Int)] 48))).alloc (.cells #[.int .u64 (x0 : Int)] 28)
    have hR := (Row.alloc (w.alloc (.cells #[.int .u64 (x0 : Int), .int .u64 (x1 : Int), .int .u64 (x2 : Int)] 48)) #[.int .u64 (x0 : Int)] 28 (0, 0))
    rw [size_alloc] at hR
    have HB := Lib.hid (And.intro hB hR)
    have hoB := Lib.hid (HX.out.2.2.2.1.keep hB (fun _ _ h => h))
    clear hB hR
    go_enter Try.func28, Try.ntmps28
    go_wp2_with (at_builtin; refine wpList_append' rfl (.tmp 11) (.tmp 14) el_u64 rfl rfl rfl hoB.out rfl HB.out.2 (one_id [x0]) hm1 hm2 ?_; intro xo xc w2 hx hch _ hx2; have hp2 := hch.heap (HB.out.1.heap HX.out.2.2.1 (fun h => h)) (fun ⟨a, ha, e⟩ => HX.out.2.2.2.2.2.2.1 (mem_blk.2 ⟨a, ha, e⟩)); obtain ⟨v0, v1⟩ := cells1 hp2; have HE := Lib.hid (And.intro hx (And.intro hch (And.intro hx2 hp2))); clear hx hch hx2 hp2)
    go_ret
    refine ⟨by simp [HO.out], ?_⟩
    exact gone_end HG.out.1 HX.out.2.2.2.2.1 HX.out.1 HX.out.2.2.2.2.2.1 HX.out.2.2.2.2.2.2.1 HX.out.2.1 HG.out.2 HB.out.1 HO.out HE.out.1 HE.out.2.1 HE.out.2.2.1 HE.out.2.2.2
  · have hovi : ¬ (x1 : Int) ≤ (now : Int) := by omega
    have HO := Lib.hid hov
    clear hov
    go_enter Try.func28, Try.ntmps28
    go_wp2
    go_ret
    have hg := HG.out.1.keep HG.out.2 (fun _ _ h => h)
    refine ⟨by simp [HO.out], F, ?_, HG.out.2.to (fun _ h => h.elim), fun _ h => .inl h⟩
    obtain ⟨k0, k1, k2, k3, k4, k5, k6, k7⟩ := hg
    exact ⟨k0, k1, k2, k3, k4, k5, by rw [expired_snoc, if_neg HO.out]; exact k6, k7⟩
theorem expire_p {p W : Nat} {lo : Option Addr} (h3 : p ∉ blk lo) (hp : p < W) : ¬ (p ∈ [W, W + 1] ∨ ∃ a, lo = some a ∧ a.block = p) := by
  rintro (h | h)
  · simp at h; omega
  · exact h3 (mem_blk.2 h)
theorem gone_by (now cn co : Nat) (l : List Sess) (hl : l.length ≤ 1000000) : DelBy Try.prog 28 #[.pointer (some ⟨cn, 0, none⟩), .pointer (some ⟨co, 0, none⟩)] Sess.val (fun s => decide (s.ends ≤ now)) l (GoneAt now cn co) := by
  refine ⟨fun _ _ => rfl, fun l' e F w hp h => ?_, fun l' F S w1 w2 h hc hS => h.keep hc hS, fun l' F w h => h.lt⟩
  have hlen := hp.length_le
  rw [List.length_append, List.length_singleton] at hlen
  exact gone_call now cn co l' e F w h (by omega)
def stays (l : List Sess) (now : Nat) : List Sess := l.filter (fun s => !decide (s.ends ≤ now))
set_option maxHeartbeats 1000000 in
theorem expire_any (p last now : Nat) (l : List Sess) (F : List Nat) (w : World) (h : BookAt w p last l F) (hl : l.length ≤ 1000000) :
    Calls Try.prog 12 #[.pointer (some ⟨p, 0, none⟩), .int .u64 (now : Int)] w fun e w' => ∃ uo m uc, e = .returned (.slice uo m uc) ∧ Own w' 1 uo m uc ((expired l now).map idCell) ∧ (∀ a, uo = some a → w.heap.size ≤ a.block) ∧ Wrote w w' p last (stays l now) F := by
  obtain ⟨lo, n, cap, h1, h2, h3, hF⟩ := h
  have hn := fl_own_len el_e h2
  have hA := ((Chg.refl (fun _ => False) w).alloc (.cells #[.int .u64 (now : Int)] 28)).alloc (.cells #[.slice none 0 0] 33)
  have g1 := heap_new (o := .cells #[.slice none 0 0] 33) (heap_top w (.cells #[.int .u64 (now : Int)] 28))
  have g2 := heap_top (w.alloc (.cells #[.int .u64 (now : Int)] 28)) (.cells #[.slice none 0 0] 33)
  rw [size_alloc] at g2
  have hG : GoneAt now w.heap.size (w.heap.size + 1) [] [w.heap.size, w.heap.size + 1] ((w.alloc (.cells #[.int .u64 (now : Int)] 28)).alloc (.cells #[.slice none 0 0] 33)) :=
    ⟨by omega, g1, none, 0, 0, g2, Own.nil' _ _, by simp [blk], by simp [blk], by simp [blk]⟩
  have HD := Lib.hid (delfunc_any lo n cap l [w.heap.size, w.heap.size + 1] _ (h2.keep hA (fun _ _ h => h)) (gone_by now w.heap.size (w.heap.size + 1) l hl) hG (fun a ha hk => by have := (h2.at_ a ha).2.1; simp at hk; omega) (by omega))
  have hmf : ∀ (fn : Fn) (first cap : Array Value) (w : World), (Instr.makeFunc fn first cap).run Try.prog w = .ok (.func fn first cap) w := fun _ _ _ _ => rfl
  have hpa := hA.heap h1 (fun h => h)
  obtain ⟨z0, z1, z2⟩ := cells2 hpa
  have HX := Lib.hid (And.intro hpa (And.intro h3 (And.intro hF (And.intro hA (heap_lt h1)))))
  clear h1 h2 h3 hF hA g1 g2 hG hpa hn
  go_enter Try.func12, Try.ntmps12
  go_wp2_with (go_at_call 27; (with_reducible refine HD.out.mono ?_); rintro r w1 ⟨k, F1, rfl, ho, hs, hc, hg⟩; have hp1 := hc.heap HX.out.1 (expire_p HX.out.2.1 HX.out.2.2.2.2); obtain ⟨y0, y1, y2⟩ := cells2 hp1; obtain ⟨q0, q1, uo, m, uc, q2, q3, q4, q5, q6⟩ := hs; have hq2 := heap_far (a := ⟨p, 1, none⟩) q2 (by simp; have := HX.out.2.2.2.2; omega) (.slice lo k cap); obtain ⟨u0, u1⟩ := cells1 hq2; have H1 := Lib.hid (And.intro ho (And.intro hc (And.intro hg (And.intro hp1 (And.intro q3 (And.intro q4 (And.intro q6 q2))))))); clear ho hc hg hp1 q0 q1 q2 q3 q4 q5 q6 hq2)
  go_ret
  obtain ⟨ho, hc, hg, hp1, q3, q4, q6, q2⟩ := H1.out
  obtain ⟨hpa, h3, hF, hA, hpl⟩ := HX.out
  have hge : ∀ i ∈ F1, w.heap.size ≤ i := by
    intro i hi
    rcases hg i hi with h | h
    · simp at h; omega
    · exact Nat.le_trans hA.size h
  have huo : ∀ a, uo = some a → w.heap.size ≤ a.block := fun a ha => hge _ (by rw [q4]; simp [mem_blk, ha])
  have hs := Chg.one w1 p 1 (.slice lo k cap)
  refine ⟨uo, m, uc, rfl, q3.keep hs (fun a ha e => by have := huo a ha; omega), huo, F, ⟨lo, k, cap, heap_set hp1 1 _, ho.keep hs (fun a ha e => h3 (mem_blk.2 ⟨a, ha, e⟩)), h3, hF⟩, ?_, fun _ h => .inl h⟩
  refine ((hA.to (S' := (· ∈ F)) (fun _ h => h.elim)).trans hc (fun i hi h => ?_)).set (by rw [hF]; simp) 1 _
  rcases h with h | h
  · simp at h; omega
  · rw [hF]; exact List.mem_cons_of_mem _ (mem_blk.2 h)
end Go.Proofs.Ytgcldmmhfleggaa
