/- ActScales returns true, whatever the input; its argument reads as it did: no condition. -/
import Derived.Test.YtbgjkpokmlkgiaaRows
import Derived.ProofKit
import Derived.Test.YtbgjkpokmlkgiaaBc
import Derived.Test.YtbgjkpokmlkgiaaCb
set_option maxRecDepth 10000
namespace Go.VL.Try
open Go Go.VL Go.Proofs
theorem ldexp_ok : S.f 27 [.d (.flt 4607182418800017408), .d (.int .i64 300)] [] = some (.ret (.d (.flt 5958262307011166208)), []) := SL_run 50 (by kernel_rfl)
section
variable {fs : List Nat} {inc inc' : Nat}
theorem decay_up (hi : FloatKind.f64.format.mul inc 4607463893776728064 = some inc') (hb : FloatKind.f64.format.order inc' 5958262307011166208 ≠ some .gt) : S.f 20 [.ptr 0 0 0 0] (AO fs inc) = some (.ret (.tup []), AO fs inc') := by
  refine SL_enter Try.func20 rfl ht20 rfl ?_
  simp [Try.f20, ht20, hi, hb]
theorem decay_low {inc2 : Nat} (hl : fs.length ≤ 256) (hi : FloatKind.f64.format.mul inc 4607463893776728064 = some inc') (hb : FloatKind.f64.format.order inc' 5958262307011166208 = some .gt)
    (hm : ∀ f ∈ fs, FloatKind.f64.format.mul f 3256102530588868608 = some (lowG f)) (hi2 : FloatKind.f64.format.mul inc' 3256102530588868608 = some inc2) : S.f 20 [.ptr 0 0 0 0] (AO fs inc) = some (.ret (.tup []), AO (fs.map lowG) inc2) := by
  refine SL_enter Try.func20 rfl ht20 rfl ?_
  have := lower_ok hl hm hi2
  simp [AO] at this
  simp [Try.f20, ht20, hi, hb, this]
end
theorem small0 : FloatKind.f64.format.mul 0 3256102530588868608 = some 0 := by kernel_rfl
theorem scale_loop (n : Nat) (hn : n < 65536) : ∀ (k i v s : Nat) (r : Nat × Nat), i + k = n % 20000 + 1 → (k = 0 → v < s) → s ≤ 5958262307011166208 → goS k v s = some r →
    ∃ env, env 3 = .ptr 0 0 0 0 ∧ r.1 < r.2 ∧ r.2 ≤ 5958262307011166208 ∧
    Lb Try.prog HT 6 0 (lpc Try.prog 6 0) ⟨mkE [(0, .d (.int .u16 n)), (3, .ptr 0 0 0 0), (5, .d (.int .i64 i))], [], AO [v, 0] s⟩ = some (.exit 0, ⟨env, [], AO [r.1, 0] r.2⟩) := by
  have hrem : (n : Int).tmod 20000 = ((n % 20000 : Nat) : Int) := by rfl
  obtain ⟨d, hd⟩ : ∃ d, d = n % 20000 := ⟨_, rfl⟩
  rw [← hd] at hrem ⊢
  have hd2 : d < 20000 := by omega
  have hwu : IntKind.u16.wrap (d : Int) = d := by simp only [IntKind.wrap, IntKind.bits, IntKind.signed]; simp; omega
  have hwi : IntKind.i64.wrap (d : Int) = d := wrap_i64 (by omega) (by omega)
  have hwi1 : IntKind.i64.wrap ((d : Int) + 1) = d + 1 := wrap_i64 (by omega) (by omega)
  intro k
  induction k with
  | zero =>
    intro i v s r hi hv hs hr
    simp [goS] at hr
    subst hr
    have : i = d + 1 := by omega
    subst this
    refine ⟨_, ?_, hv rfl, hs, by rw [Lb_lp Try.func6]; simp [AO, lpd, loopsIn, Try.f6, hrem, hwu, hwi, hwi1]; rfl⟩
    simp
  | succ k ih =>
    intro i v s r hi hv hs hr
    have hlt : (i : Int) < d + 1 := by omega
    have hw : IntKind.i64.wrap ((i : Int) + 1) = i + 1 := wrap_i64 (by omega) (by omega)
    have hr0 : nxS v s (goS k) = some r := hr
    obtain ⟨t, ht, hc⟩ := nxS_inv hr0
    -- what is behind the decay
    have fin : ∀ v' s', v' < s' → s' ≤ 5958262307011166208 → goS k v' s' = some r → S.f 20 [.ptr 0 0 0 0] (AO [v, 0] s) = some (.ret (.tup []), AO [v', 0] s') → 
        ∃ env, env 3 = .ptr 0 0 0 0 ∧ r.1 < r.2 ∧ r.2 ≤ 5958262307011166208 ∧
        Lb Try.prog HT 6 0 (lpc Try.prog 6 0) ⟨mkE [(0, .d (.int .u16 n)), (3, .ptr 0 0 0 0), (5, .d (.int .i64 i))], [], AO [v, 0] s⟩ = some (.exit 0, ⟨env, [], AO [r.1, 0] r.2⟩) := by
      intro v' s' h1 h2 h3 h4
      obtain ⟨env, e3, e4, e5, ih⟩ := ih (i + 1) v' s' r (by omega) (fun _ => h1) h2 h3
      refine ⟨env, e3, e4, e5, ?_⟩
      have hst := step_ok (fs := [v', 0]) (inc := s')
      have o1 : FloatKind.f64.format.order s' 0 = some .gt := by
        rw [order_pos (by unfold fI; omega) (by unfold fI; omega), if_neg (by omega), if_neg (by omega)]
      have o2 : FloatKind.f64.format.order s' 5958262307011166208 = some .lt ∨ FloatKind.f64.format.order s' 5958262307011166208 = some .eq := by
        rw [order_pos (by unfold fI; omega) (by unfold fI; omega)]
        rcases Nat.lt_or_ge s' 5958262307011166208 with h | h
        · left; rw [if_pos h]
        · right; rw [if_neg (by omega), if_pos (by omega)]
      simp [AO] at hst h4 ih
      rw [Lb_lp Try.func6]
      rcases o2 with o2 | o2
      · simp [AO, lpd, loopsIn, Try.f6, ht6, L6, hrem, hwu, hwi, hwi1, hlt, hw, h4, hst, ldexp_ok, o1, o2]
        exact ih
      · simp [AO, lpd, loopsIn, Try.f6, ht6, L6, hrem, hwu, hwi, hwi1, hlt, hw, h4, hst, ldexp_ok, o1, o2]
        exact ih
    rcases hc with ⟨h1, h2, h3⟩ | ⟨h1, h2, t', v', h3, h4, h5, h6, h7⟩
    · refine fin v t h2 h1 h3 (decay_up ht ?_)
      rw [order_pos (by unfold fI; omega) (by unfold fI; omega)]
      rcases Nat.lt_or_ge t 5958262307011166208 with h | h
      · rw [if_pos h]; simp
      · rw [if_neg (by omega), if_pos (by omega)]; simp
    · have hlv : lowG v = v' := by unfold lowG; rw [h4]; rfl
      have hl0 : lowG 0 = 0 := by unfold lowG; rw [small0]; rfl
      have hdl := decay_low (fs := [v, 0]) (by simp) ht (by rw [order_pos (by unfold fI; omega) (by unfold fI; omega), if_neg (by omega), if_neg (by omega)])
        (fun f hf => by
          simp at hf
          rcases hf with rfl | rfl
          · rw [hlv]; exact h4
          · rw [hl0]; exact small0) h3
      have e : [v, 0].map lowG = [v', 0] := by simp [hlv, hl0]
      rw [e] at hdl
      exact fin v' t' h6 h5 h7 hdl
theorem act_scales (n : Nat) (hn : n < 65536) : S.f 6 [.d (.int .u16 n)] [] = some (.ret (.d (.bool true)), []) := by
  refine SL_enter Try.func6 rfl ht6 rfl ?_
  obtain ⟨r, hr⟩ := goAll (n := n % 20000 + 1) (by omega)
  obtain ⟨env, e3, hlt, hle, hloop⟩ := scale_loop n hn (n % 20000 + 1) 0 4607182418800017408 4607182418800017408 r (by omega) (by omega) (by decide) hr
  obtain ⟨v, s⟩ := r
  simp only at hlt hle hloop
  have hnew := new_ok (n := 2) (by decide)
  have hb1 := bump_ok (fs := [0, 0]) (inc := 4607182418800017408) (k := 0) (x := 4607182418800017408) (by decide) (by decide) (by kernel_rfl) (by kernel_rfl) (by decide +kernel)
  have hb2 := bump_ok (fs := [v, 0]) (inc := s) (k := 1) (x := s) (by simp) (by simp) (add_zero (by omega) (by unfold fI; omega)) (by rw [order_pos (by unfold fI; omega) (by unfold fI; omega)]; simp) (by
    rw [order_pos (by unfold fI; omega) (by unfold fI; omega)]
    rcases Nat.lt_or_ge s 5958262307011166208 with h | h
    · rw [if_pos h]; simp
    · rw [if_neg (by omega), if_pos (by omega)]; simp)
  have hv1 := value_in (fs := [v, s]) (inc := s) (k := 0) (by simp) (by simp)
  have hv2 := value_in (fs := [v, s]) (inc := s) (k := 1) (by simp) (by simp)
  have htop := top_ok (fs := [v, s]) (inc := s) (nots := []) (by simp) (fun f hf => by simp at hf; omega)
  have hw : 0 < wcmp s v := (wcmp_pos (by unfold fI; omega) (by unfold fI; omega)).2 hlt
  have htt : topTo [v, s] [] 2 = 1 := by simp [topTo, topStep, hw]
  have o1 : FloatKind.f64.format.order s v = some .gt := by
    rw [order_pos (by unfold fI; omega) (by unfold fI; omega), if_neg (by omega), if_neg (by omega)]
  have o2 : FloatKind.f64.format.order s 5958262307011166208 = some .lt ∨ FloatKind.f64.format.order s 5958262307011166208 = some .eq := by
    rw [order_pos (by unfold fI; omega) (by unfold fI; omega)]
    rcases Nat.lt_or_ge s 5958262307011166208 with h | h
    · left; rw [if_pos h]
    · right; rw [if_neg (by omega), if_pos (by omega)]
  simp [AO, htt] at hnew hb1 hb2 hv1 hv2 htop hloop
  rcases o2 with o2 | o2
  · simp [Try.f6, ht6, L6, known_true, hnew, hb1, hb2, hv1, hv2, htop, hloop, e3, ldexp_ok, o1, o2]
  · simp [Try.f6, ht6, L6, known_true, hnew, hb1, hb2, hv1, hv2, htop, hloop, e3, ldexp_ok, o1, o2]
theorem act_scales_law (xs : List VL.D) (h : TyArgs Try.prog 4 Try.f6.params.toList xs) : PFun Try.prog 6 xs (.ret [.d (.bool true)]) := by
  have hp : Try.f6.params.toList = [59] := by kernel_rfl
  rw [hp] at h
  obtain ⟨c, rest, rfl, hc, hr⟩ := h
  have hr : rest = [] := hr
  subst hr
  have hu : Try.prog.underlying 59 = some (.int .u16) := by kernel_rfl
  simp only [TyD, hu] at hc
  obtain ⟨x, rfl, hw⟩ := hc
  have hx : 0 ≤ x ∧ x < 65536 := by
    simp [Lit.wf, IntKind.min, IntKind.max, IntKind.signed, IntKind.bits] at hw
    omega
  have := pfun_of_SL hok (g := 6) (ds := [.int .u16 x]) (x := .bool true) (by
    have := act_scales x.toNat (by omega)
    rw [Int.toNat_of_nonneg hx.1] at this
    exact this)
  simpa [argD, hu] using this
end Go.VL.Try
namespace Go.Proofs.Ytbgjkpokmlkgiaa
open Go Go.ChangeShapes Go.WideShapes Go.ChangeAt Go.RowKit
theorem scales_lifted (os : Os) (started : os.Started) (H : Type) (enc : TypeId × Value → H) :
    ReturnsInHanded {} Try.checked os 6 .any (Rows.actScalesSpec.pre6 enc Try.prog Try.f6 Rows.actScalesRow.domain false) (Rows.actScalesSpec.post enc Try.prog Try.f6 false true false false) := by
  refine returnsInHanded_of_change (C := Try.checked) (by kernel_rfl) started (by kernel_rfl) Try.func6
    (ChangeSpec.witness6 (enc := enc) (C := Try.checked) false ⟨#[], #[.int .u16 0], []⟩ 8 (by kernel_rfl) (by kernel_rfl) (by kernel_rfl) (by kernel_rfl)) ?_
  intro W base args ds gs before hval hW _ _
  refine Go.VL.law_true (n := 4) (tb := 4) Try.func6 rfl (by kernel_rfl) (by kernel_rfl) (by kernel_rfl) (by kernel_rfl) (by kernel_rfl) rfl ?_ Go.VL.Try.act_scales_law hval hW
  intro ds hd
  match ds, hd with
  | [d], _ => rfl
theorem scales_holds : Rows.ActScalesSaid :=
  OpenClaim.holds_of_wide 6 Try.f6 rfl rfl rfl rfl rfl rfl rfl ⟨rfl, rfl, rfl, rfl, rfl⟩ rfl rfl rfl rfl rfl (by kernel_rfl) Try.func6 (by kernel_rfl)
    (of_decide_eq_true (by kernel_rfl)) (by unfold Func.isWrapper; first | (rw [if_pos (by decide +kernel)]; kernel_rfl) | (rw [if_neg (by decide +kernel)]; exact ⟨rfl, rfl⟩))
    (fun os started H enc _ => scales_lifted os started H enc)
end Go.Proofs.Ytbgjkpokmlkgiaa
