/-
  From a row's reading to the words of these proofs: all that is there is sealed; a slice of bytes.
-/
import Derived.Test.YtlecedlondamiaaMem
import Derived.ProofKit
import Derived.OpenShut
import Derived.ShutString
import Derived.ChangeOld
import Derived.SizedLaws
namespace Go.Proofs.Ytlecedlondamiaa
open Go Go.RowKit Go.ChangeShapes Go.WideShapes Go.ChangeAt
theorem own : ownKnob Try.prog.godebug = none := by kernel_rfl
theorem laidOut : laidOutB Try.prog = true := by kernel_rfl
/-- All that is there. -/
def Mem.all (w : World) : Mem := fun k o => w.cell? ⟨k, o, none⟩
theorem Ok.all (w : World) : Ok (Mem.all w) w := ⟨fun _ _ _ h => h⟩
theorem cell_spot {w : World} {a : Addr} {v : Value} (h : w.cell? a = some v) : a = ⟨a.block, a.off, none⟩ := by
  obtain ⟨b, o, s⟩ := a
  cases s with
  | none => rfl
  | some s =>
    unfold World.cell? at h
    split at h <;> simp at h
theorem add_at (b o i : Nat) : (⟨b, o, none⟩ : Addr).add i = ⟨b, o + i, none⟩ := by unfold Addr.add; split <;> simp_all
theorem bytes_open {H : Type} {enc : TypeId × Value → H} {P : Program} {W : World} {t e : TypeId} {v : Value} {d : DataW H} {p : List MemPlace} (ht : P.underlying t = some (.slice e)) (he : P.underlying e = some (.int .u8)) (hc : P.cellsOf e = 1)
    {base : Nat} (hok : Value.okWide P W .any base t v) (h : DataW.Trod enc P W 0 (fun _ => true) true t v d p) : ∃ l, RdB (Mem.all W) v l := by
  obtain ⟨a0, len, cap, rfl⟩ := okWide_slice ht hok
  obtain ⟨fuel, hf⟩ := h
  rcases open_ints ht he hc hf with ⟨hcs, _⟩ | ⟨a, len', cap', zs, hcs, _, hl, hm, hz, _, hcell, hwz⟩
  · simp [Value.cells] at hcs
    obtain ⟨rfl, rfl, rfl⟩ := hcs
    exact ⟨[], RdB.nil _⟩
  · simp [Value.cells] at hcs
    obtain ⟨rfl, rfl, rfl⟩ := hcs
    simp only [if_true] at hz
    have hlen : ((zs.take len).map fun n => UInt8.ofNat n.toNat).length = len := by simp; omega
    refine ⟨(zs.take len).map fun n => UInt8.ofNat n.toNat, some a, cap, by rw [hlen], by omega, hm, fun i x hx => ?_⟩
    have hi : i < len := by have := (List.getElem?_eq_some_iff.1 hx).1; omega
    have hiz : i < zs.length := by omega
    have h0 := cell_spot (hcell 0 (by omega))
    have ha0 : a.add 0 = a := by unfold Addr.add; simp
    rw [ha0] at h0
    refine ⟨a.block, a.off, by rw [← h0], ?_⟩
    have hci := hcell i hiz
    rw [h0, add_at] at hci
    unfold Mem.all
    rw [hci]
    rw [List.getElem?_map, List.getElem?_take, if_pos hi, List.getElem?_eq_getElem hiz] at hx
    simp only [Option.map_some, Option.some.injEq] at hx
    have hw := bounds_u8 (hwz zs[i] (List.getElem_mem hiz))
    rw [← hx, bv, List.getD_eq_getElem?_getD, List.getElem?_eq_getElem hiz]
    simp only [Option.getD_some, UInt8.toNat_ofNat']
    congr 2
    omega
end Go.Proofs.Ytlecedlondamiaa
