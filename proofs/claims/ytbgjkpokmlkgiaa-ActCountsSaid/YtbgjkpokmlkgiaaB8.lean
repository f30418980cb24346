/- ActCounts returns true, whatever the input; its argument reads as it did: no condition. -/
import Derived.Test.YtbgjkpokmlkgiaaRows
import Derived.ProofKit
import Derived.Test.YtbgjkpokmlkgiaaBc
set_option maxRecDepth 10000
namespace Go.VL.Try
open Go Go.VL Go.Proofs
theorem ints_of {k : IntKind} {p : Int → Prop} : ∀ (l : List (List VL.D)), (∀ c ∈ l, ∃ x, c = [VL.D.int k x] ∧ p x) → ∃ xs : List Int, l = xs.map (fun x => [VL.D.int k x]) ∧ ∀ x ∈ xs, p x
  | [], _ => ⟨[], rfl, by simp⟩
  | c :: l, h => by
    obtain ⟨x, rfl, hx⟩ := h c (by simp)
    obtain ⟨xs, rfl, hxs⟩ := ints_of l fun c hc => h c (by simp [hc])
    exact ⟨x :: xs, rfl, by simpa using ⟨hx, hxs⟩⟩
theorem act_counts_law (xs : List VL.D) (h : TyArgs Try.prog 4 Try.f3.params.toList xs) : PFun Try.prog 3 xs (.ret [.d (.bool true)]) := by
  have hp : Try.f3.params.toList = [22] := by kernel_rfl
  rw [hp] at h
  obtain ⟨c, rest, rfl, hc, hr⟩ := h
  have hr : rest = [] := hr
  subst hr
  have hu : Try.prog.underlying 22 = some (.slice 5) := by kernel_rfl
  have hu5 : Try.prog.underlying 5 = some (.int .u8) := by kernel_rfl
  simp only [TyD, hu] at hc
  obtain ⟨l, rfl, hl, hc⟩ := hc
  simp only [hu5] at hc
  obtain ⟨ys, rfl, hy⟩ := ints_of (k := .u8) (p := fun x => 0 ≤ x ∧ x < 256) l fun c hm => by
    obtain ⟨-, x, rfl, hw⟩ := hc c hm
    refine ⟨x, rfl, ?_⟩
    simp [Lit.wf, IntKind.min, IntKind.max, IntKind.signed, IntKind.bits] at hw
    omega
  have e : ys.map (fun x => [VL.D.int .u8 x]) = (ys.map Int.toNat).map fun b : Nat => [VL.D.int .u8 b] := by
    rw [List.map_map]
    refine List.map_congr_left fun x hx => ?_
    have := (hy x hx).1
    simp [Int.toNat_of_nonneg this]
  have := pfun_of_SL hok (g := 3) (ds := [.fz (ys.map fun x => [VL.D.int .u8 x])]) (x := .bool true) (by
    rw [e]
    exact act_counts (ys.map Int.toNat) fun x hx => by
      obtain ⟨z, hz, rfl⟩ := List.mem_map.1 hx
      have := hy z hz
      omega)
  simpa [argD, hu] using this
end Go.VL.Try
namespace Go.Proofs.Ytbgjkpokmlkgiaa
open Go Go.ChangeShapes Go.WideShapes Go.ChangeAt Go.RowKit
theorem Try.own : ownKnob Try.prog.godebug = none := by kernel_rfl
theorem Try.laidOut : laidOutB Try.prog = true := by kernel_rfl
theorem counts_lifted (os : Os) (started : os.Started) (H : Type) (enc : TypeId × Value → H) :
    ReturnsInHanded {} Try.checked os 3 .any (Rows.actCountsSpec.pre6 enc Try.prog Try.f3 Rows.actCountsRow.domain false) (Rows.actCountsSpec.post enc Try.prog Try.f3 false true false false) := by
  refine returnsInHanded_of_change (C := Try.checked) Try.own started (by kernel_rfl) Try.func3
    (ChangeSpec.witness6 (enc := enc) (C := Try.checked) false ⟨#[], #[.slice none 0 0], []⟩ 8 (by kernel_rfl) (by kernel_rfl) (by kernel_rfl) (by kernel_rfl)) ?_
  intro W base args ds gs before hval hW _ _
  refine Go.VL.law_true (n := 4) (tb := 4) Try.func3 rfl (by kernel_rfl) Try.laidOut (by kernel_rfl) (by kernel_rfl) (by kernel_rfl) rfl ?_ Go.VL.Try.act_counts_law hval hW
  intro ds hd
  match ds, hd with
  | [d], _ => rfl
theorem counts_holds : Rows.ActCountsSaid :=
  OpenClaim.holds_of_wide 3 Try.f3 rfl rfl rfl rfl rfl rfl rfl ⟨rfl, rfl, rfl, rfl, rfl⟩ rfl rfl rfl rfl rfl (by kernel_rfl) Try.func3 (by kernel_rfl)
    (of_decide_eq_true (by kernel_rfl)) (by unfold Func.isWrapper; first | (rw [if_pos (by decide +kernel)]; kernel_rfl) | (rw [if_neg (by decide +kernel)]; exact ⟨rfl, rfl⟩))
    (fun os started H enc _ => counts_lifted os started H enc)
end Go.Proofs.Ytbgjkpokmlkgiaa
#print axioms Go.Proofs.Ytbgjkpokmlkgiaa.counts_holds
