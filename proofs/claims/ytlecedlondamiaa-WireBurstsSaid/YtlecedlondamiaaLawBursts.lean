/- WireBursts: for every row of bytes, every place and every pattern of bits the call returns true and leaves what it was given as it was. No condition. -/
import Derived.Test.YtlecedlondamiaaRows
import Derived.Test.YtlecedlondamiaaOpen
import Derived.Test.YtlecedlondamiaaWBursts
namespace Go.Proofs.Ytlecedlondamiaa
open Go.ChangeShapes Go.WideShapes Go.ChangeAt Go.RowKit
set_option linter.unusedVariables false
theorem bursts_all (M : Mem) (w : World) (v : Value) (l : List UInt8) (p bits : Nat) (hok : Ok M w) (hv : RdB M v l) (hbits : bits < 4294967296) (hp : p < 65536) :
    Calls Try.prog 3 #[v, .int .u16 p, .int .u32 bits] w fun e w' => e = .returned (.bool true) ∧ ∃ M', Nx [] M w M' w' := by
  by_cases h : l.length = 0 ∨ 600 < l.length ∨ bits = 0
  · exact bursts_out M w v l p bits hok hv h hbits
  · exact bursts_in M w v l p bits hok hv (by omega) (by omega) (by omega) hbits hp
set_option maxRecDepth 100000 in
theorem bursts_lifted (os : Os) (started : os.Started) (H : Type) (enc : TypeId × Value → H) :
    ReturnsInHanded {} Try.checked os 3 .any (Rows.wireBurstsSpec.pre6 enc Try.prog Try.f3 Rows.wireBurstsRow.domain false) (Rows.wireBurstsSpec.post enc Try.prog Try.f3 false true false false) := by
  refine returnsInHanded_of_change (C := Try.checked) own started (by kernel_rfl) Try.func3
    (ChangeSpec.witness6 (enc := enc) (C := Try.checked) false ⟨#[], #[.slice none 0 0, .int .u16 0, .int .u32 0], []⟩ 8 (by kernel_rfl) (by kernel_rfl) (by kernel_rfl) (by kernel_rfl)) ?_
  intro W base args ds gs before hval0 hW hcnd _
  have hval : ∀ (j : Nat) t v, Try.f3.params[j]? = some t → args[j]? = some v → Value.okWide Try.prog W .any base t v := hval0
  have hW' := hW
  obtain ⟨p, q, hA0, hV, rfl, hfz, hnd⟩ := hW
  have hA : DataW.TrodAll enc Try.prog W 0 (fun _ => true) true Try.f3.params.toList args.toList ds p := hA0
  rw [Try.params3] at hA hval
  obtain ⟨v0, v1, v2, d0, d1, d2, p0, p1, p2, rfl, rfl, rfl, h0, h1, h2⟩ := trodAll_three hA
  obtain ⟨rfl, rfl⟩ := trodVars_none hV
  have lt0 : ∀ x ∈ p0, x.block < W.heap.size := by obtain ⟨m, hm⟩ := h0; exact DataW.trod_lt m _ _ _ hm
  obtain ⟨l, hl⟩ := bytes_open Try.underlying22 Try.underlying5 (by kernel_rfl) (hval 0 22 v0 rfl rfl) h0
  obtain ⟨a, rfl, rfl, rfl, wa⟩ := open_int Try.underlying23 (hval 1 23 v1 rfl rfl) h1
  obtain ⟨b, rfl, rfl, rfl, wb⟩ := open_int Try.underlying24 (hval 2 24 v2 rfl rfl) h2
  have ba := bounds_u16 wa
  have bb := bounds_u32 wb
  obtain ⟨a, rfl⟩ := Int.eq_ofNat_of_zero_le ba.1
  obtain ⟨b, rfl⟩ := Int.eq_ofNat_of_zero_le bb.1
  clear hA0 hval0
  simp only [List.append_nil] at hW'
  refine (bursts_all (Mem.all W) W v0 l a b (Ok.all W) hl (by omega) (by omega)).mono fun e W' ⟨he, M', hn⟩ => ?_
  subst he
  have bel := hn.upd.below
  exact ⟨_, rfl, _, _, _, [], _, [], hW', trodAll_mk1 (shut_bool Try.underlying4 _),
    trodAll_mk3 (Below.trod laidOut (by kernel_rfl) (of_decide_eq_true (by kernel_rfl)) h0 bel lt0) (shut_int Try.underlying23 wa) (shut_int Try.underlying24 wb), rfl, bel.frame _, fun h => by cases h⟩

theorem wireBursts_holds : Rows.WireBurstsSaid :=
  OpenClaim.holds_of_wide 3 Try.f3 rfl rfl rfl rfl rfl rfl rfl ⟨rfl, rfl, rfl, rfl, rfl⟩ rfl rfl rfl rfl rfl (by kernel_rfl) Try.func3 (by kernel_rfl)
    (of_decide_eq_true (by kernel_rfl)) (by unfold Func.isWrapper; first | (rw [if_pos (by decide +kernel)]; kernel_rfl) | (rw [if_neg (by decide +kernel)]; exact ⟨rfl, rfl⟩))
    (fun os started H enc _ => bursts_lifted os started H enc)
#print axioms wireBursts_holds
end Go.Proofs.Ytlecedlondamiaa
