/-
  THE PLAIN LAW OF THE SUMS (layer 1): the sum of bytes as 32 bits, bit by bit; that it is linear, and that a burst of 32 bits is seen. No program in sight.
-/
namespace Go.Proofs.YtibigfglhpdjmaaDoor
/-- One bit goes through. -/
def stp (x : BitVec 32) : BitVec 32 := (x >>> 1) ^^^ (bif x.getLsbD 0 then 0x82f63b78#32 else 0#32)
def rep {α : Type} (f : α → α) : Nat → α → α
  | 0, x => x
  | n + 1, x => f (rep f n x)
theorem rep_succ' {α : Type} (f : α → α) (n : Nat) (x : α) : rep f (n + 1) x = rep f n (f x) := by
  induction n with
  | zero => rfl
  | succ n ih => show f (rep f (n + 1) x) = f (rep f n (f x)); rw [ih]
theorem rep_add {α : Type} (f : α → α) (m n : Nat) (x : α) : rep f (m + n) x = rep f m (rep f n x) := by
  induction m with
  | zero => simp [rep]
  | succ m ih => rw [Nat.add_right_comm]; show f (rep f (m + n) x) = f (rep f m (rep f n x)); rw [ih]
/-- A byte goes through. -/
def byt (x : BitVec 32) (c : UInt8) : BitVec 32 := rep stp 8 (x ^^^ BitVec.ofNat 32 c.toNat)
def crcs (x : BitVec 32) (bs : List UInt8) : BitVec 32 := bs.foldl byt x
def more (s : BitVec 32) (bs : List UInt8) : BitVec 32 := ~~~ (crcs (~~~ s) bs)
def crc (bs : List UInt8) : BitVec 32 := more 0#32 bs

theorem crcs_append (x : BitVec 32) (a b : List UInt8) : crcs x (a ++ b) = crcs (crcs x a) b := by simp [crcs]
theorem more_append (s : BitVec 32) (a b : List UInt8) : more (more s a) b = more s (a ++ b) := by simp [more, crcs_append]
theorem more_nil (s : BitVec 32) : more s [] = s := by simp [more, crcs]

/-! ### linear -/
theorem stp_xor (x y : BitVec 32) : stp (x ^^^ y) = stp x ^^^ stp y := by
  unfold stp
  rw [BitVec.getLsbD_xor, BitVec.ushiftRight_xor_distrib]
  cases x.getLsbD 0 <;> cases y.getLsbD 0 <;> simp only [Bool.xor_false, Bool.xor_true, Bool.not_false, Bool.not_true, cond_true, cond_false, BitVec.xor_zero]
  · rw [BitVec.xor_assoc]
  · rw [BitVec.xor_assoc, BitVec.xor_comm (y >>> 1), BitVec.xor_assoc]
  · rw [BitVec.xor_assoc (x >>> 1), ← BitVec.xor_assoc (2197175160#32), BitVec.xor_comm (2197175160#32) (y >>> 1), BitVec.xor_assoc (y >>> 1)]; simp
theorem stp_zero : stp 0#32 = 0#32 := by decide
theorem rep_stp_xor (n : Nat) (x y : BitVec 32) : rep stp n (x ^^^ y) = rep stp n x ^^^ rep stp n y := by
  induction n with
  | zero => rfl
  | succ n ih => show stp _ = stp _ ^^^ stp _; rw [ih, stp_xor]
theorem rep_stp_zero (n : Nat) : rep stp n 0#32 = 0#32 := by
  induction n with
  | zero => rfl
  | succ n ih => show stp _ = _; rw [ih, stp_zero]
theorem byteOf_xor (a b : UInt8) : BitVec.ofNat 32 (a ^^^ b).toNat = BitVec.ofNat 32 a.toNat ^^^ BitVec.ofNat 32 b.toNat := by
  rw [UInt8.toNat_xor]
  apply BitVec.eq_of_toNat_eq
  have h1 := a.toNat_lt
  have h2 := b.toNat_lt
  have h3 : a.toNat ^^^ b.toNat < 2 ^ 32 := Nat.xor_lt_two_pow (by omega) (by omega)
  simp only [BitVec.toNat_ofNat, BitVec.toNat_xor]
  rw [Nat.mod_eq_of_lt h3, Nat.mod_eq_of_lt (by omega), Nat.mod_eq_of_lt (by omega)]
theorem xor4 (a b c d : BitVec 32) : (a ^^^ b) ^^^ (c ^^^ d) = (a ^^^ c) ^^^ (b ^^^ d) := by
  rw [BitVec.xor_assoc, ← BitVec.xor_assoc b, BitVec.xor_comm b c, BitVec.xor_assoc c, ← BitVec.xor_assoc]
theorem byt_xor (x y : BitVec 32) (a b : UInt8) : byt (x ^^^ y) (a ^^^ b) = byt x a ^^^ byt y b := by
  unfold byt
  rw [byteOf_xor, ← rep_stp_xor, xor4]
theorem crcs_xor (as : List UInt8) : ∀ (bs : List UInt8) (x y : BitVec 32), as.length = bs.length → crcs (x ^^^ y) (List.zipWith (· ^^^ ·) as bs) = crcs x as ^^^ crcs y bs := by
  induction as with
  | nil => intro bs x y h; cases bs with | nil => rfl | cons _ _ => simp at h
  | cons a as ih =>
    intro bs x y h
    cases bs with
    | nil => simp at h
    | cons b bs => simp only [List.zipWith_cons_cons, crcs, List.foldl_cons]; rw [byt_xor]; exact ih bs _ _ (by simpa using h)
theorem not_xor3 (p q r : BitVec 32) : ~~~ (p ^^^ q ^^^ r) = ~~~ p ^^^ ~~~ q ^^^ ~~~ r := by
  apply BitVec.eq_of_getLsbD_eq
  intro i hi
  simp only [BitVec.getLsbD_not, BitVec.getLsbD_xor, hi, decide_true, Bool.true_and]
  cases p.getLsbD i <;> cases q.getLsbD i <;> cases r.getLsbD i <;> rfl
theorem crc_linear (a b c : List UInt8) (hb : a.length = b.length) (hc : b.length = c.length) :
    crc (List.zipWith (· ^^^ ·) (List.zipWith (· ^^^ ·) a b) c) = crc a ^^^ crc b ^^^ crc c := by
  have e : (~~~ (0#32) : BitVec 32) = (~~~ (0#32) ^^^ ~~~ (0#32)) ^^^ ~~~ (0#32) := by decide
  have h := crcs_xor (List.zipWith (· ^^^ ·) a b) c (~~~ (0#32) ^^^ ~~~ (0#32)) (~~~ (0#32)) (by simp [hb, hc])
  rw [crcs_xor a b _ _ hb, ← e] at h
  unfold crc more
  rw [← not_xor3, h]
end Go.Proofs.YtibigfglhpdjmaaDoor
