/-
  LAYER 20: Cut.
-/
import Derived.Test.YtgbfpllaianeaaaDelM
import Derived.Test.YtgbfpllaianeaaaNetA
namespace Go.Proofs.Ytgbfpllaianeaaa
open Go Go.RowKit

theorem cut_by (dt : Int) (l : List Ent) (c : Nat) : DelBy Try.prog 20 #[.pointer (some ⟨c, 0, none⟩)] Ent.val (fun e => e.m.dst == dt) l (fun _ F w => F = [c] ∧ w.heap[c]? = some (.cells #[.int .i64 dt] 3 (0, 0))) := by
  refine DelBy.pure l c _ _ (fun _ _ => rfl) ?_
  intro e w hc
  obtain ⟨⟨x0, x1, xb⟩, xo, xc⟩ := e
  have hc' := heap_new (o := .cells #[.int .i64 x0, .int .i64 x1, .slice xo xb.length xc] 29) hc
  obtain ⟨z0, _⟩ := cells1 hc'
  show Calls Try.prog 20 #[.agg #[.int .i64 x0, .int .i64 x1, .slice xo xb.length xc], .pointer (some ⟨c, 0, none⟩)] w _
  clear hc hc'
  go_enter Try.func20, Try.ntmps20
  go_wp2
  go_ret
  exact ⟨rfl, (Below.refl _ w).alloc (Nat.le_refl _) _⟩
theorem MsgsAt.filter {w w' : World} {lo : Option Addr} {n k cap : Nat} {es : List Ent} (q : Ent → Bool) (h : MsgsAt w lo n cap es) (ho : Own w' 3 lo k cap ((es.filter q).flatMap Ent.cells)) {S : Nat → Prop} (hc : Chg S w w') (hS : ∀ j, S j → j < w.heap.size → ∃ a, lo = some a ∧ a.block = j) :
    MsgsAt w' lo k cap (es.filter q) ∧ ∀ j ∈ netF lo (es.filter q), j ∈ netF lo es := by
  have hnd := h.nodup
  have hsub : ((es.filter q).flatMap (fun e => blk e.bo)).Sublist (es.flatMap (fun e => blk e.bo)) := by
    clear ho hc hS hnd h
    induction es with
    | nil => simp
    | cons x l ihl =>
      rw [List.filter_cons, List.flatMap_cons]
      split
      · rw [List.flatMap_cons]; exact List.Sublist.append (List.Sublist.refl _) ihl
      · exact ihl.trans (List.sublist_append_right _ _)
  rw [netF, List.nodup_append] at hnd
  refine ⟨⟨ho, fun e he => ?_, ?_⟩, fun j hj => ?_⟩
  · have hem := (List.mem_filter.1 he).1
    refine (h.ent e hem).keep hc (fun a ha hs => ?_)
    obtain ⟨b, hb, hbb⟩ := hS _ hs ((h.ent e hem).at_ a ha).2.1
    exact hnd.2.2 b.block (mem_blk.2 ⟨b, hb, rfl⟩) a.block (List.mem_flatMap.2 ⟨e, hem, mem_blk.2 ⟨a, ha, rfl⟩⟩) hbb
  · rw [netF, List.nodup_append]
    exact ⟨hnd.1, hnd.2.1.sublist hsub, fun x hx y hy => hnd.2.2 x hx y (hsub.subset hy)⟩
  · rcases List.mem_append.1 hj with h | h
    · exact List.mem_append_left _ h
    · exact List.mem_append_right _ (hsub.subset h)
theorem cut_p {p W : Nat} {lo : Option Addr} {es : List Ent} (h : p ∉ netF lo es) (hp : p < W) : ¬ (p ∈ [W] ∨ ∃ a, lo = some a ∧ a.block = p) := by
  rintro (h1 | h1)
  · rw [List.mem_singleton] at h1; omega
  · exact h (List.mem_append_left _ (mem_blk.2 h1))
theorem map_filter (es : List Ent) (dt : Int) : (es.filter (fun e => !(e.m.dst == dt))).map Ent.m = (es.map Ent.m).filter (fun m => !(m.dst == dt)) := by
  induction es with
  | nil => rfl
  | cons e es ih => rw [List.filter_cons, List.map_cons, List.filter_cons]; split <;> simp [ih]
set_option maxHeartbeats 1000000 in
set_option maxRecDepth 100000 in
theorem cut_any (p : Nat) (ms : List Msg) (F : List Nat) (dt : Int) (w : World) (h : NetAt w p ms F) (hk : ms.length ≤ 4096) :
    Calls Try.prog 16 #[.pointer (some ⟨p, 0, none⟩), .int .i64 dt] w fun e w' => e = .returned (.int .i64 ((ms.length : Int) - ((ms.filter (fun m => !(m.dst == dt))).length : Int))) ∧ ∃ F', NetAt w' p (ms.filter (fun m => !(m.dst == dt))) F' ∧ Chg (· ∈ F) w w' ∧ Grew w F F' := by
  obtain ⟨lo, n, cap, es, h1, h2, h3, h4, hF⟩ := h
  have hn := h2.len
  have hml : ms.length = n := by rw [← h3, List.length_map, hn]
  have hA := (Chg.refl (fun _ => False) w).alloc (.cells #[.int .i64 dt] 3)
  have HD := Lib.hid (delfunc_any lo n cap es [w.heap.size] _ (h2.own.keep hA (fun _ _ h => h)) (cut_by dt es w.heap.size) ⟨rfl, heap_top w _⟩ (fun a ha hk => by have := (h2.own.at_ a ha).2.1; rw [List.mem_singleton] at hk; omega) (by omega))
  have hmf : ∀ (fn : Fn) (first cap : Array Value) (w : World), (Instr.makeFunc fn first cap).run Try.prog w = .ok (.func fn first cap) w := fun _ _ _ _ => rfl
  have hpa := hA.heap h1 (fun h => h)
  obtain ⟨z0, z1⟩ := cells1 hpa
  have HX := Lib.hid (And.intro hpa (And.intro h2 (And.intro h3 (And.intro h4 (And.intro hF (And.intro hA (heap_lt h1)))))))
  have hn4 : n ≤ 4096 := by omega
  rw [hml]
  clear h1 h2 h3 h4 hF hA hpa hn hml hk
  go_enter Try.func16, Try.ntmps16
  go_wp2_with (go_at_call 19; (with_reducible refine HD.out.mono ?_); rintro r w1 ⟨k, F1, rfl, ho, _, hc, _⟩; have hp1 := hc.heap HX.out.1 (cut_p HX.out.2.2.2.1 HX.out.2.2.2.2.2.2); obtain ⟨y0, y1⟩ := cells1 hp1; have H1 := Lib.hid (And.intro ho (And.intro hc hp1)); clear ho hc hp1)
  go_ret
  obtain ⟨hpa, h2, h3, h4, hF, hA, hpl⟩ := HX.out
  obtain ⟨ho, hc, hp1⟩ := H1.out
  have hkl := fl_own_len el_e ho
  have hkn : (es.filter (fun e => !(e.m.dst == dt))).length ≤ es.length := List.length_filter_le ..
  have hen := h2.len
  have hms : ms.filter (fun m => !(m.dst == dt)) = (es.filter (fun e => !(e.m.dst == dt))).map Ent.m := by rw [← h3, map_filter]
  have hch : Chg (fun i => i ∈ [w.heap.size] ∨ ∃ a, lo = some a ∧ a.block = i) w w1 := (hA.to (fun _ h => h.elim)).trans hc (fun _ _ h => h)
  obtain ⟨hm, hsub⟩ := h2.filter (fun e => !(e.m.dst == dt)) ho hch (fun j hj hl => by
    rcases hj with h | h
    · rw [List.mem_singleton] at h; omega
    · exact h)
  have hpF : p ∉ netF lo (es.filter (fun e => !(e.m.dst == dt))) := fun h => h4 (hsub p h)
  refine ⟨?_, p :: netF lo (es.filter (fun e => !(e.m.dst == dt))), ⟨lo, k, cap, _, heap_set hp1 0 _, hm.keep (Chg.one w1 p 0 _) (fun j hj e => hpF (e ▸ hj)), hms.symm, hpF, rfl⟩, ?_, ?_⟩
  · rw [hms, List.length_map, hkl]
    show Ending.returned (.int .i64 (wrap64 ((n : Int) - (k : Int)))) = _
    rw [IntWalk.wrap64_in _ (by omega)]
  · refine ((hch.mono (S' := (· ∈ F)) (fun j hj h => ?_))).set (by rw [hF]; simp) 0 _
    rw [hF]
    rcases h with h | h
    · rw [List.mem_singleton] at h; omega
    · exact List.mem_cons_of_mem _ (List.mem_append_left _ (mem_blk.2 h))
  · intro j hj
    rw [hF]
    rcases List.mem_cons.1 hj with rfl | hj
    · exact .inl (by simp)
    · exact .inl (List.mem_cons_of_mem _ (hsub j hj))
end Go.Proofs.Ytgbfpllaianeaaa
