/-
  Plain: what WireBack puts, and what it reads.
-/
import Derived.Test.YtlecedlondamiaaBack
namespace Go.Proofs.Ytlecedlondamiaa
def putOne (x : Nat) : List UInt8 := putN 2 (x % 65536) ++ (putN 4 (x % 4294967296) ++ putVar x)
def putNums (l : List Nat) : List UInt8 := l.flatMap putOne
def putTx (s : List UInt8) : List UInt8 := putVar s.length ++ s
def putTexts (l : List (List UInt8)) : List UInt8 := l.flatMap putTx
theorem flat_take {α : Type} (f : α → List UInt8) {l : List α} {j : Nat} {x : α} (h : l[j]? = some x) : (l.take (j + 1)).flatMap f = (l.take j).flatMap f ++ f x := by
  rw [List.take_add_one, h]
  simp
theorem flat_drop {α : Type} (f : α → List UInt8) {l : List α} {j : Nat} {x : α} (h : l[j]? = some x) : (l.drop j).flatMap f = f x ++ (l.drop (j + 1)).flatMap f := by
  obtain ⟨hj, rfl⟩ := List.getElem?_eq_some_iff.1 h
  rw [List.drop_eq_getElem_cons hj, List.flatMap_cons]
theorem flat_len {α : Type} (f : α → List UInt8) (k : Nat) (l : List α) (h : ∀ x ∈ l, (f x).length ≤ k) : (l.flatMap f).length ≤ k * l.length := by
  induction l with
  | nil => simp
  | cons x l ih =>
    have h1 := h x (by simp)
    have h2 := ih (fun y hy => h y (by simp [hy]))
    simp only [List.flatMap_cons, List.length_append, List.length_cons, Nat.mul_add, Nat.mul_one]
    omega
theorem putVar_le {x : Nat} (h : x < 18446744073709551616) : (putVar x).length ≤ 10 := putVar_len 9 x (Nat.lt_of_lt_of_le h (by decide))
theorem putOne_len {x : Nat} (h : x < 18446744073709551616) : (putOne x).length ≤ 16 := by
  have := putVar_le h
  simp [putOne, putN_length]
  omega
theorem putTx_len {s : List UInt8} (h : s.length ≤ 300) : (putTx s).length ≤ 310 := by
  have := putVar_le (x := s.length) (by omega)
  simp [putTx]
  omega
theorem num2_put {x : Nat} (r : List UInt8) : RS.num ⟨putOne x ++ r, 0⟩ 2 = (x % 65536, ⟨putN 4 (x % 4294967296) ++ (putVar x ++ r), 0⟩) := by
  have h := RS.num_put 2 (x % 65536) (putN 4 (x % 4294967296) ++ (putVar x ++ r))
  have e : x % 65536 % 256 ^ 2 = x % 65536 := by omega
  rw [e] at h
  simpa [putOne, List.append_assoc] using h
theorem num4_put {x : Nat} (r : List UInt8) : RS.num ⟨putN 4 (x % 4294967296) ++ r, 0⟩ 4 = (x % 4294967296, ⟨r, 0⟩) := by
  have h := RS.num_put 4 (x % 4294967296) r
  have e : x % 4294967296 % 256 ^ 4 = x % 4294967296 := by omega
  rw [e] at h
  exact h
end Go.Proofs.Ytlecedlondamiaa
