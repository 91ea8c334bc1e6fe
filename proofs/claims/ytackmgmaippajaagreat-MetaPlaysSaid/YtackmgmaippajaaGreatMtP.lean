/-
  LAYER 8: a keeper's state and its commands, in plain words; a writer of one's own.
-/
import Derived.Test.YtackmgmaippajaaGreatFP
import Derived.Test.YtackmgmaippajaaGreatFTc
import Derived.Test.YtackmgmaippajaaGreatFLb
import Derived.Outline
namespace Go.Proofs.YtackmgmaippajaaGreat
open Go Go.RowKit

/-! ### plain -/
/-- A state: a time, keys, the last number, sessions. -/
structure St where
  now : Nat
  ps : List Tr.Pl
  last : Nat
  l : List Ls.Sess
def St.new : St := ⟨0, [], 0, []⟩
/-- A command: its value's bytes, and where they lie. -/
structure Cm where
  kind : Nat
  key : ByteArray
  val : List UInt8
  want : Nat
  sess : Nat
  ticks : Nat
structure Cm.Fit (c : Cm) : Prop where
  kind : c.kind < 256
  key : c.key.size ≤ 5000
  val : c.val.length ≤ 5000
  want : c.want < 18446744073709551616
  sess : c.sess < 18446744073709551616
  ticks : c.ticks < 18446744073709551616
def Cm.cells (c : Cm) (vo : Option Addr) (vc : Nat) : Array Value := #[.int .u8 (c.kind : Int), .string c.key, .slice vo c.val.length vc, .int .u64 (c.want : Int), .int .u64 (c.sess : Int), .int .u64 (c.ticks : Int)]
/-- The keys of sessions go. -/
def dropAll (ps : List Tr.Pl) (ids : List Nat) : List Tr.Pl := ids.foldl Tr.dropP ps
/-- A command that is refused ahead of all. -/
def late (s : St) (c : Cm) : Bool := (decide (c.kind = 1) || decide (c.kind = 4)) && !decide (c.sess = 0) && !Ls.liveL s.l c.sess s.now
/-- What a command does: the state; its number, the sessions that went, an error's number. -/
def doS (s : St) (c : Cm) : St × Nat × List Nat × Int :=
  if late s c then (s, 0, [], 15) else
  if c.kind = 1 then ({ s with ps := (Tr.putP s.ps c.key c.val c.want c.sess).1 }, (Tr.putP s.ps c.key c.val c.want c.sess).2.1, [], (Tr.putP s.ps c.key c.val c.want c.sess).2.2) else
  if c.kind = 2 then ({ s with ps := (Tr.delP s.ps c.key c.want).1 }, 0, [], (Tr.delP s.ps c.key c.want).2) else
  if c.kind = 3 then ({ s with last := (Ls.openL s.last s.l s.now c.ticks).2.1, l := (Ls.openL s.last s.l s.now c.ticks).2.2 }, (Ls.openL s.last s.l s.now c.ticks).1.1, [], (Ls.openL s.last s.l s.now c.ticks).1.2) else
  if c.kind = 4 then ({ s with l := (Ls.renewL s.l c.sess s.now).1 }, 0, [], (Ls.renewL s.l c.sess s.now).2) else
  if c.kind = 5 then ({ s with l := (Ls.closeL s.l c.sess).1, ps := if (Ls.closeL s.l c.sess).2 = 0 then Tr.dropP s.ps c.sess else s.ps }, 0, [], (Ls.closeL s.l c.sess).2) else
  if c.kind = 6 then
    ({ s with now := s.now + min c.ticks (1099511627776 - s.now), l := Ls.stays s.l (s.now + min c.ticks (1099511627776 - s.now)), ps := dropAll s.ps (Ls.expired s.l (s.now + min c.ticks (1099511627776 - s.now))) },
      s.now + min c.ticks (1099511627776 - s.now), Ls.expired s.l (s.now + min c.ticks (1099511627776 - s.now)), 0) else
  if c.kind = 7 then (s, 0, [], 0) else (s, 0, [], 16)
/-- A command's bytes; a state's. -/
def recC (c : Cm) : List UInt8 := be 1 c.kind ++ (be 4 c.key.size ++ c.key.data.toList) ++ (be 4 c.val.length ++ c.val) ++ be 8 c.want ++ be 8 c.sess ++ be 8 c.ticks
def sessB (x : Ls.Sess) : List UInt8 := be 8 x.id ++ be 8 x.ends ++ be 8 x.life
def nodeB (x : Tr.Pl) : List UInt8 := be 4 x.key.size ++ x.key.data.toList ++ (be 4 x.body.length ++ x.body) ++ be 8 x.ver ++ be 8 x.own
def recS (s : St) : List UInt8 := be 1 7 ++ be 8 s.now ++ be 8 s.last ++ be 2 s.l.length ++ s.l.flatMap sessB ++ be 2 s.ps.length ++ s.ps.flatMap nodeB
def rec (s : St) (c : Cm) : List UInt8 := if c.kind = 7 then recS s else recC c
/-- What a state is at any time. -/
structure St.Ok (s : St) : Prop where
  fine : Tr.Fine s.ps
  key : ∀ x ∈ s.ps, x.key.size ≠ 0 ∧ x.key.size ≤ 64
  ver : ∀ x ∈ s.ps, 1 ≤ x.ver
  now : s.now ≤ 1099511627776
  last : s.last < 18446744073709551616
  len : s.l.length ≤ 16
  good : ∀ k e, s.l[k]? = some e → Ls.Good s.last s.l k e
  ends : ∀ e ∈ s.l, e.ends < 18446744073709551616
/-! ### a writer of one's own -/
theorem u8_mine {w0 w : World} {p : Nat} {bs : List UInt8} (h : WrMine w0 w p bs) (N : Int) (n : Nat) (hN : N = (n : Int)) (hn : n < 256) (hb : bs.length ≤ 70368744177664) :
    Calls Tryz.prog 88 #[.pointer (some ⟨p, 0, none⟩), .int .u8 N] w fun e w' => e = .returned (.tuple #[]) ∧ WrMine w0 w' p (bs ++ be 1 n) := by
  subst hN
  obtain ⟨F, h1, h2, h3⟩ := h
  exact (u8_any p bs F n w h1 hn hb).mono fun e w' he => ⟨he.1, WrMine.now h2 h3 he.2⟩
theorem u64_mine {w0 w : World} {p : Nat} {bs : List UInt8} (h : WrMine w0 w p bs) (N : Int) (n : Nat) (hN : N = (n : Int)) (hn : n < 18446744073709551616) (hb : bs.length ≤ 70368744177664) :
    Calls Tryz.prog 90 #[.pointer (some ⟨p, 0, none⟩), .int .u64 N] w fun e w' => e = .returned (.tuple #[]) ∧ WrMine w0 w' p (bs ++ be 8 n) := by
  subst hN
  obtain ⟨F, h1, h2, h3⟩ := h
  exact (u64_any p bs F n w h1 hn hb).mono fun e w' he => ⟨he.1, WrMine.now h2 h3 he.2⟩
/-- Bytes that lie below the writer's own memory. -/
theorem bytes_mine {w0 w : World} {p : Nat} {bs : List UInt8} (h : WrMine w0 w p bs) (bo : Option Addr) (n c : Nat) (ys : List UInt8) (hl : ys.length = n) (hy : Bts w0 bo ys) (hn : n ≤ 4294967295) (hb : bs.length ≤ 4398046511104) :
    Calls Tryz.prog 89 #[.pointer (some ⟨p, 0, none⟩), .slice bo n c] w fun e w' => e = .returned (.tuple #[]) ∧ WrMine w0 w' p (bs ++ (be 4 n ++ ys)) := by
  obtain ⟨F, h1, h2, h3⟩ := h
  refine (wbytes_any p bs F bo n c ys w h1 hl (hy.below h3) (fun hz a ha hk => ?_) hn hb).mono fun e w' he => ⟨he.1, WrMine.now h2 h3 (by rw [← List.append_assoc]; exact he.2)⟩
  have := h2 _ hk
  have := bts_lt hy hz a ha
  omega
/-- A string's bytes, laid anew ahead of the call. -/
theorem strb_mine {w0 w : World} {p : Nat} {bs : List UInt8} (h : WrMine w0 w p bs) (s : ByteArray) (cap : Nat) (t : TypeId) (fz : Nat × Nat) (hn : s.size ≤ 4294967295) (hb : bs.length ≤ 4398046511104) :
    Calls Tryz.prog 89 #[.pointer (some ⟨p, 0, none⟩), .slice (some ⟨w.heap.size, 0, none⟩) s.size cap] (w.alloc (.cells (bytesRow s cap) t fz)).drew fun e w' => e = .returned (.tuple #[]) ∧ WrMine w0 w' p (bs ++ (be 4 s.size ++ s.data.toList)) := by
  have hb' := (Below.refl w.heap.size w).alloc (Nat.le_refl _) (.cells (bytesRow s cap) t fz)
  have h' := (h.keep hb'.drew)
  obtain ⟨F, h1, h2, h3⟩ := h
  have h1' : WrAt (w.alloc (.cells (bytesRow s cap) t fz)).drew p bs F := h1.keep (Chg.of_below hb'.drew (fun _ => False)) (fun _ _ h => h)
  refine (wbytes_any p bs F _ s.size cap s.data.toList _ h1' (Array.length_toList ..) (bytesRow_bts w s cap t fz).drew (fun _ a ha hk => ?_) hn hb).mono fun e w' he => ⟨he.1, WrMine.now h2 (h3.trans (hb'.drew.mono h3.size)) (by rw [← List.append_assoc]; exact he.2)⟩
  cases ha
  exact Nat.lt_irrefl _ (h1.lt _ hk)
end Go.Proofs.YtackmgmaippajaaGreat
