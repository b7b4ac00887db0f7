/-
  Plain: what a reader of bytes does, as functions of its state: what is left, and with what it gave up.
-/
import Derived.Test.YtlecedlondamiaaWPut
namespace Go.Proofs.Ytlecedlondamiaa
structure RS where
  b : List UInt8
  e : Int
def RS.fail (s : RS) (x : Int) : RS := if s.e = 0 ∧ x ≠ 0 then ⟨[], x⟩ else s
/-- What is taken (nothing: it lacks), and what is then. -/
def RS.take (s : RS) (n : Nat) : Option (List UInt8) × RS :=
  if s.e ≠ 0 then (none, s) else if s.b.length < n then (none, ⟨[], 1⟩) else (some (s.b.take n), ⟨s.b.drop n, s.e⟩)
def numV : List UInt8 → Nat
  | [] => 0
  | x :: l => x.toNat + 256 * numV l
def RS.num (s : RS) (n : Nat) : Nat × RS := (numV ((s.take n).1.getD []), (s.take n).2)
/-- How many bytes with more behind them stand ahead, of ten at most. -/
def hiN : Nat → List UInt8 → Nat
  | 0, _ => 0
  | _ + 1, [] => 0
  | k + 1, x :: l => if 128 ≤ x.toNat then hiN k l + 1 else 0
def sevV : Nat → List UInt8 → Nat
  | _, [] => 0
  | 0, x :: _ => x.toNat % 128
  | k + 1, x :: l => x.toNat % 128 + 128 * sevV k l
/-- The form of a number by sevens whose last byte is at n is wrong. -/
def badV (n : Nat) (l : List UInt8) : Bool := decide (n = 10) || (decide (n = 9) && decide (1 < (l.getD 9 0).toNat)) || (decide (0 < n) && decide ((l.getD n 0).toNat = 0))
def RS.var (s : RS) (most : Nat) : Nat × RS :=
  if s.e ≠ 0 then (0, s)
  else
    let n := hiN 10 s.b
    if n < 10 ∧ s.b.length ≤ n then (0, ⟨[], 1⟩)
    else if badV n s.b = true then (0, ⟨[], 2⟩)
    else if most < sevV n s.b then (0, ⟨[], 4⟩)
    else (sevV n s.b, ⟨s.b.drop (n + 1), 0⟩)
def RS.text (s : RS) (most : Nat) : List UInt8 × RS := (((s.var most).2.take (s.var most).1).1.getD [], ((s.var most).2.take (s.var most).1).2)
/-- A section: the reader of what is in it, and what is left outside. -/
def RS.sec (s : RS) (id : Nat) : RS × RS :=
  let a := s.num 1
  let s1 := if a.1 ≠ id then a.2.fail 2 else a.2
  let n := s1.num 4
  let t := n.2.take n.1
  let c := t.2.num 4
  let s2 := if c.1 ≠ crc (t.1.getD []) then c.2.fail 3 else c.2
  (if s2.e ≠ 0 then ⟨[], s2.e⟩ else ⟨t.1.getD [], 0⟩, s2)
def RS.end_ (s : RS) : Int := if s.e = 0 ∧ 0 < s.b.length then 2 else s.e

theorem numV_lt (l : List UInt8) : numV l < 256 ^ l.length := by
  induction l with
  | nil => simp [numV]
  | cons x l ih =>
    have := x.toNat_lt
    simp only [numV, List.length_cons, Nat.pow_succ]
    omega
theorem numV_snoc (l : List UInt8) (x : UInt8) : numV (l ++ [x]) = numV l + x.toNat * 256 ^ l.length := by
  induction l with
  | nil => simp [numV]
  | cons y l ih =>
    simp only [List.cons_append, numV, List.length_cons, ih, Nat.pow_succ, Nat.mul_add]
    have : 256 * (x.toNat * 256 ^ l.length) = x.toNat * (256 ^ l.length * 256) := by rw [Nat.mul_left_comm, Nat.mul_comm 256]
    omega
theorem or_u64 {a b : Nat} (ha : a < 18446744073709551616) (hb : b < 18446744073709551616) : bits .or .u64 a b = ((a ||| b : Nat) : Int) :=
  (bits_nat .u64 64 (by decide) (fun n h0 h1 => by obtain ⟨n, rfl⟩ := Int.eq_ofNat_of_zero_le h0; exact wrap_u64 (by omega)) a b ha hb).2
theorem or_shl {m x s : Nat} (hm : m < 2 ^ s) (hs : x * 2 ^ s + 2 ^ s ≤ 18446744073709551616) : bits .or .u64 (m : Int) (IntKind.u64.wrap ((x : Int) * 2 ^ s)) = ((m + x * 2 ^ s : Nat) : Int) := by
  have h1 : ((x : Int) * 2 ^ s) = ((x * 2 ^ s : Nat) : Int) := by simp
  rw [h1, wrap_u64 (by omega), or_u64 (by omega) (by omega), Nat.or_comm, Nat.mul_comm, ← Nat.two_pow_add_eq_or_of_lt hm x]
  congr 1
  exact Nat.add_comm _ _
theorem wrap_u64_mod (n : Nat) : IntKind.u64.wrap (n : Int) = ((n % 18446744073709551616 : Nat) : Int) := by
  simp only [IntKind.wrap, IntKind.bits, IntKind.signed]
  simp
theorem and127 {x : Nat} (h : x < 256) : bits .and .u8 (x : Int) 127 = ((x % 128 : Nat) : Int) := by
  have h1 := (bits_nat .u8 8 (by decide) wraps_u8 x 127 h (by decide)).1
  have e : x &&& 127 = x % 128 := Nat.and_two_pow_sub_one_eq_mod x 7
  rw [e] at h1
  exact h1
/-- What a number by sevens has become behind one byte more. -/
def orV (v x j : Nat) : Nat := v ||| (x % 128 * 2 ^ (7 * j)) % 18446744073709551616
theorem orV_lt {v : Nat} (h : v < 18446744073709551616) (x j : Nat) : orV v x j < 18446744073709551616 :=
  Nat.or_lt_two_pow (n := 64) h (Nat.mod_lt _ (by decide))
theorem or_sev {v x : Nat} (hv : v < 18446744073709551616) (j : Nat) : bits .or .u64 (v : Int) (IntKind.u64.wrap ((x : Int) % 128 * 2 ^ (7 * j))) = (orV v x j : Int) := by
  have h1 : ((x : Int) % 128 * 2 ^ (7 * j)) = ((x % 128 * 2 ^ (7 * j) : Nat) : Int) := by simp
  rw [h1, wrap_u64_mod, or_u64 hv (Nat.mod_lt _ (by decide))]
  rfl
/-- The loop that reads a number by sevens. -/
def vloop : Nat → Nat → Nat → Nat → RS → Nat × Nat × Nat × RS
  | 0, j, v, x, s => (j, v, x, s)
  | k + 1, j, v, x, s => if 128 ≤ x ∧ s.e = 0 then vloop k (j + 1) (orV v (s.num 1).1 j) (s.num 1).1 (s.num 1).2 else (j, v, x, s)
theorem vloop_stop {k j v x : Nat} {s : RS} (h : k = 0 ∨ ¬ (128 ≤ x ∧ s.e = 0)) : vloop k j v x s = (j, v, x, s) := by
  cases k with
  | zero => rfl
  | succ k => rw [vloop, if_neg (h.resolve_left (by omega))]
def RS.varP (s : RS) (most : Nat) : Nat × RS :=
  let r := vloop 10 0 0 128 s
  if r.2.2.2.e ≠ 0 then (0, r.2.2.2)
  else if 128 ≤ r.2.2.1 ∨ (r.1 = 10 ∧ 1 < r.2.2.1) ∨ (1 < r.1 ∧ r.2.2.1 = 0) then (0, r.2.2.2.fail 2)
  else if most < r.2.1 then (0, r.2.2.2.fail 4)
  else (r.2.1, r.2.2.2)
theorem RS.take_e (s : RS) (n : Nat) (h : s.e ≠ 0) : s.take n = (none, s) := by simp [RS.take, h]
theorem RS.fail_e (s : RS) (x : Int) (h : s.e ≠ 0) : s.fail x = s := by simp [RS.fail, h]
theorem RS.num_e (s : RS) (n : Nat) (h : s.e ≠ 0) : s.num n = (0, s) := by simp [RS.num, RS.take, h, numV]
end Go.Proofs.Ytlecedlondamiaa
