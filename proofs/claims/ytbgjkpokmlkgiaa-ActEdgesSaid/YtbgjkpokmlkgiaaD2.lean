/- ActEdges returns true, whatever the input; its arguments read as they did: no condition. -/
import Derived.Test.YtbgjkpokmlkgiaaD1
import Derived.Test.YtbgjkpokmlkgiaaB
set_option maxRecDepth 10000
namespace Go.VL.Try
open Go Go.VL Go.Proofs
theorem act_edges_law (xs : List VL.D) (h : TyArgs Try.prog 4 Try.f4.params.toList xs) : PFun Try.prog 4 xs (.ret [.d (.bool true)]) := by
  have hp : Try.f4.params.toList = [36, 37] := by kernel_rfl
  rw [hp] at h
  obtain ⟨c, rest, rfl, hc, c', rest', rfl, hc', hr⟩ := h
  have hr : rest' = [] := hr
  subst hr
  have hu : Try.prog.underlying 36 = some (.slice 40) := by kernel_rfl
  have hu40 : Try.prog.underlying 40 = some (.int .u64) := by kernel_rfl
  have hu' : Try.prog.underlying 37 = some (.slice 4) := by kernel_rfl
  have hu4 : Try.prog.underlying 4 = some .bool := by kernel_rfl
  simp only [TyD, hu, hu'] at hc hc'
  obtain ⟨l, rfl, hl, hc⟩ := hc
  obtain ⟨l', rfl, hl', hc'⟩ := hc'
  simp only [hu40, hu4] at hc hc'
  obtain ⟨ys, rfl, hy⟩ := natsOf (k := .u64) (m := 18446744073709551616) l fun c hm => by
    obtain ⟨-, x, rfl, hw⟩ := hc c hm
    refine ⟨x, rfl, ?_⟩
    simp [Lit.wf, IntKind.min, IntKind.max, IntKind.signed, IntKind.bits] at hw
    omega
  obtain ⟨bs, rfl⟩ := boolsOf l' fun c hm => (hc' c hm).2
  have := pfun_of_SL hok (g := 4) (x := .bool true) (ds := [_, _]) (act_edges ys bs hy)
  simpa [argD, hu, hu'] using this
end Go.VL.Try
namespace Go.Proofs.Ytbgjkpokmlkgiaa
open Go Go.ChangeShapes Go.WideShapes Go.ChangeAt Go.RowKit
theorem edges_lifted (os : Os) (started : os.Started) (H : Type) (enc : TypeId × Value → H) :
    ReturnsInHanded {} Try.checked os 4 .any (Rows.actEdgesSpec.pre6 enc Try.prog Try.f4 Rows.actEdgesRow.domain false) (Rows.actEdgesSpec.post enc Try.prog Try.f4 false true false false) := by
  refine returnsInHanded_of_change (C := Try.checked) (by kernel_rfl) started (by kernel_rfl) Try.func4
    (ChangeSpec.witness6 (enc := enc) (C := Try.checked) false ⟨#[], #[.slice none 0 0, .slice none 0 0], []⟩ 8 (by kernel_rfl) (by kernel_rfl) (by kernel_rfl) (by kernel_rfl)) ?_
  intro W base args ds gs before hval hW _ _
  refine Go.VL.law_true (n := 4) (tb := 4) Try.func4 rfl (by kernel_rfl) (by kernel_rfl) (by kernel_rfl) (by kernel_rfl) (by kernel_rfl) rfl ?_ Go.VL.Try.act_edges_law hval hW
  intro ds hd
  match ds, hd with
  | [d, e], _ => rfl
theorem edges_holds : Rows.ActEdgesSaid :=
  OpenClaim.holds_of_wide 4 Try.f4 rfl rfl rfl rfl rfl rfl rfl ⟨rfl, rfl, rfl, rfl, rfl⟩ rfl rfl rfl rfl rfl (by kernel_rfl) Try.func4 (by kernel_rfl)
    (of_decide_eq_true (by kernel_rfl)) (by unfold Func.isWrapper; first | (rw [if_pos (by decide +kernel)]; kernel_rfl) | (rw [if_neg (by decide +kernel)]; exact ⟨rfl, rfl⟩))
    (fun os started H enc _ => edges_lifted os started H enc)
end Go.Proofs.Ytbgjkpokmlkgiaa
