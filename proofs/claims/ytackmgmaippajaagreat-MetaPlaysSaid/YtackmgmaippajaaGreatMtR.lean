/-
  LAYER 8: what a record says, in plain words.
-/
import Derived.Test.YtackmgmaippajaaGreatMtS
namespace Go.Proofs.YtackmgmaippajaaGreat
open Go Go.RowKit

/-! ### reading, in plain words -/
def rdN (k : Nat) (bs : List UInt8) : Option (Nat × List UInt8) := if k ≤ bs.length then some (ube (bs.take k), bs.drop k) else none
def rdB (bs : List UInt8) : Option (List UInt8 × List UInt8) :=
  match rdN 4 bs with
  | none => none
  | some (n, r) => if n ≤ r.length then some (r.take n, r.drop n) else none
def sessP (bs : List UInt8) : Option (Ls.Sess × List UInt8) :=
  match rdN 8 bs with
  | none => none
  | some (a, r) => match rdN 8 r with
    | none => none
    | some (b, r) => match rdN 8 r with
      | none => none
      | some (c, r) => some (⟨a, b, c⟩, r)
def nodP (bs : List UInt8) : Option (Tr.Pl × List UInt8) :=
  match rdB bs with
  | none => none
  | some (a, r) => match rdB r with
    | none => none
    | some (b, r) => match rdN 8 r with
      | none => none
      | some (c, r) => match rdN 8 r with
        | none => none
        | some (d, r) => some (⟨strOf a, b, c, d⟩, r)
def many {α : Type} (f : List UInt8 → Option (α × List UInt8)) : Nat → List UInt8 → Option (List α × List UInt8)
  | 0, bs => some ([], bs)
  | n + 1, bs => match f bs with
    | none => none
    | some (x, r) => match many f n r with
      | none => none
      | some (l, r) => some (x :: l, r)
/-- A state as it was written: a time, a last number, sessions, nodes; what is left. -/
def snapP (bs : List UInt8) : Option ((Nat × Nat × List Ls.Sess × List Tr.Pl) × List UInt8) :=
  match rdN 8 bs with
  | none => none
  | some (now, r) => match rdN 8 r with
    | none => none
    | some (last, r) => match rdN 2 r with
      | none => none
      | some (n, r) => match many sessP n r with
        | none => none
        | some (l, r) => match rdN 2 r with
          | none => none
          | some (m, r) => match many nodP m r with
            | none => none
            | some (ps, r) => some ((now, last, l, ps), r)
def GoodB (last : Nat) (l : List Ls.Sess) : Prop := l.length ≤ 16 ∧ ∀ k e, l[k]? = some e → Ls.Good last l k e
def GoodT (ps : List Tr.Pl) : Prop := Tr.Valid (ps.map fun x => ⟨x.key, x.body, x.ver, x.own, none, 0⟩)
open Classical in
/-- What a state's record makes of a state; a command's. -/
noncomputable def rplS (s : St) (bs : List UInt8) : Option St :=
  match rdN 1 bs with
  | none => none
  | some (kind, r) =>
    if kind = 7 then
      match snapP r with
      | none => none
      | some ((now, last, l, ps), r) => if r = [] ∧ GoodB last l ∧ GoodT ps ∧ now ≤ 1099511627776 then some ⟨now, ps, last, l⟩ else none
    else
      match rdB r with
      | none => none
      | some (key, r) => match rdB r with
        | none => none
        | some (val, r) => match rdN 8 r with
          | none => none
          | some (want, r) => match rdN 8 r with
            | none => none
            | some (sess, r) => match rdN 8 r with
              | none => none
              | some (ticks, r) => if (doS s ⟨kind, strOf key, val, want, sess, ticks⟩).2.2.2 = 0 ∧ r = [] then some (doS s ⟨kind, strOf key, val, want, sess, ticks⟩).1 else none
/-! ### what was written is read -/
theorem rdN_put (k n : Nat) (rest : List UInt8) (hn : n < 256 ^ k) : rdN k (be k n ++ rest) = some (n, rest) := by
  unfold rdN
  rw [if_pos (by rw [List.length_append, be_length]; omega), be_take, be_drop', ube_be, Nat.mod_eq_of_lt hn]
theorem rdB_put (n : Nat) (ys rest : List UInt8) (hl : ys.length = n) (hn : n < 4294967296) : rdB (be 4 n ++ (ys ++ rest)) = some (ys, rest) := by
  unfold rdB
  rw [rdN_put 4 n _ (by omega)]
  simp only
  rw [if_pos (by rw [List.length_append]; omega), ← hl]
  simp
theorem sess_put (x : Ls.Sess) (rest : List UInt8) (h1 : x.id < 18446744073709551616) (h2 : x.ends < 18446744073709551616) (h3 : x.life < 18446744073709551616) : sessP (sessB x ++ rest) = some (x, rest) := by
  unfold sessP sessB
  rw [List.append_assoc, List.append_assoc, rdN_put 8 _ _ (by omega)]
  simp only
  rw [rdN_put 8 _ _ (by omega)]
  simp only
  rw [rdN_put 8 _ _ (by omega)]
theorem strOf_data (k : ByteArray) : strOf k.data.toList = k := rfl
theorem node_put (x : Tr.Pl) (rest : List UInt8) (h1 : x.key.size ≤ 64) (h2 : x.body.length ≤ 3840) (h3 : x.ver < 18446744073709551616) (h4 : x.own < 18446744073709551616) : nodP (nodeB x ++ rest) = some (x, rest) := by
  have e : nodeB x ++ rest = be 4 x.key.size ++ (x.key.data.toList ++ (be 4 x.body.length ++ (x.body ++ (be 8 x.ver ++ (be 8 x.own ++ rest))))) := by simp [nodeB]
  unfold nodP
  rw [e, rdB_put x.key.size x.key.data.toList _ (Array.length_toList ..) (by omega)]
  simp only
  rw [rdB_put _ _ _ rfl (by omega)]
  simp only
  rw [rdN_put 8 _ _ (by omega)]
  simp only
  rw [rdN_put 8 _ _ (by omega)]
  simp only [strOf_data]
theorem many_put {α : Type} {f : List UInt8 → Option (α × List UInt8)} {g : α → List UInt8} (rest : List UInt8) : ∀ (l : List α), (∀ x ∈ l, ∀ r, f (g x ++ r) = some (x, r)) → many f l.length (l.flatMap g ++ rest) = some (l, rest)
  | [], _ => rfl
  | x :: l, h => by
    rw [List.flatMap_cons, List.append_assoc, List.length_cons, many, h x (by simp)]
    simp only
    rw [many_put rest l (fun y hy => h y (by simp [hy]))]
/-- A step of a list of things. -/
theorem many_step {α : Type} {f : List UInt8 → Option (α × List UInt8)} {n : Nat} {bs r : List UInt8} {x : α} (h : f bs = some (x, r)) : many f (n + 1) bs = (many f n r).map (fun q => (x :: q.1, q.2)) := by
  rw [many, h]
  simp only
  cases many f n r <;> rfl
theorem many_none {α : Type} {f : List UInt8 → Option (α × List UInt8)} {n : Nat} {bs : List UInt8} (h : f bs = none) : many f (n + 1) bs = none := by
  rw [many, h]
theorem snap_put (s : St) (hs : s.Ok) (rest : List UInt8) (hl : ∀ e ∈ s.l, e.life < 18446744073709551616 ∧ e.id < 18446744073709551616) : snapP (be 8 s.now ++ (be 8 s.last ++ (be 2 s.l.length ++ (s.l.flatMap sessB ++ (be 2 s.ps.length ++ (s.ps.flatMap nodeB ++ rest)))))) = some ((s.now, s.last, s.l, s.ps), rest) := by
  have h1 := hs.now
  have h2 := hs.last
  have h3 := hs.len
  have h4 := hs.fine.len
  unfold snapP
  rw [rdN_put 8 _ _ (by omega)]
  simp only
  rw [rdN_put 8 _ _ (by omega)]
  simp only
  rw [rdN_put 2 _ _ (by omega)]
  simp only
  rw [many_put _ _ (fun x hx r => sess_put x r (hl x hx).2 (hs.ends x hx) (hl x hx).1)]
  simp only
  rw [rdN_put 2 _ _ (by omega)]
  simp only
  rw [many_put _ _ (fun x hx r => node_put x r (hs.key x hx).2 (hs.fine.body x hx) (hs.fine.ver x hx) (hs.fine.own x hx))]
end Go.Proofs.YtackmgmaippajaaGreat
