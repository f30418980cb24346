/- ActEdges returns true, whatever the input; its arguments read as they did: no condition. -/
import Derived.Test.YtbgjkpokmlkgiaaRows
import Derived.ProofKit
import Derived.Test.YtbgjkpokmlkgiaaB
import Derived.Test.YtbgjkpokmlkgiaaVe
import Derived.Test.YtbgjkpokmlkgiaaBb
set_option maxRecDepth 10000
namespace Go.VL.Try
open Go Go.VL Go.Proofs
section
variable {fs : List Nat} {inc : Nat}
theorem put_out {k : Int} {b : Nat} (hk : ¬ (1 ≤ k ∧ k ≤ fs.length)) : S.f 14 [.ptr 0 0 0 0, .d (.int .i64 k), .d (.flt b)] (AO fs inc) = some (.ret (.d (.int .i64 1)), AO fs inc) := by
  refine SL_enter Try.func14 rfl ht14 rfl ?_
  simp [Try.f14, ht14, known_ok, hk, must_false, catch_some]
theorem put_bad {k b : Nat} (hl : fs.length ≤ 256) (hk : k < fs.length) (hb : FloatKind.f64.format.order b b ≠ some .eq) : S.f 14 [.ptr 0 0 0 0, .d (.int .i64 (k + 1)), .d (.flt b)] (AO fs inc) = some (.ret (.d (.int .i64 8)), AO fs inc) := by
  refine SL_enter Try.func14 rfl ht14 rfl ?_
  have h1 : (1:Int) ≤ (k:Int) + 1 := by omega
  have h2 : (k:Int) + 1 ≤ fs.length := by omega
  simp [Try.f14, ht14, known_ok, h1, h2, must_true, must_false, check_ok, hb, catch_some]
theorem put_ok {k b : Nat} (hl : fs.length ≤ 256) (hk : k < fs.length) (hb : FloatKind.f64.format.order b b = some .eq) : S.f 14 [.ptr 0 0 0 0, .d (.int .i64 (k + 1)), .d (.flt b)] (AO fs inc) = some (.ret (.d (.int .i64 0)), AO (fs.set k b) inc) := by
  refine SL_enter Try.func14 rfl ht14 rfl ?_
  have h1 : (1:Int) ≤ (k:Int) + 1 := by omega
  have h2 : (k:Int) + 1 ≤ fs.length := by omega
  have hw : IntKind.i64.wrap (k : Int) = k := wrap_i64 (by omega) (by omega)
  simp [Try.f14, ht14, known_ok, h1, h2, must_true, check_ok, hb, hw, hk, catch_none]
end
theorem topTo_app {ys zs : List Nat} {nots : List Bool} : ∀ q, q ≤ ys.length → topTo (ys ++ zs) nots q = topTo ys nots q
  | 0, _ => (rfl)
  | q + 1, h => by
    have ih := topTo_app (ys := ys) (zs := zs) (nots := nots) q (by omega)
    have hb := topTo_lt (fs := ys) (nots := nots) q
    show topStep (ys ++ zs) nots (topTo (ys ++ zs) nots q) q = topStep ys nots (topTo ys nots q) q
    rw [ih]
    generalize topTo ys nots q = b at hb
    unfold topStep
    by_cases hneg : b < 0
    · simp [hneg]
    · have e1 : (ys ++ zs).getD q 0 = ys.getD q 0 := by simp [List.getD, List.getElem?_append_left (show q < ys.length by omega)]
      have hbn : b.toNat < ys.length := by omega
      have e2 : (ys ++ zs).getD b.toNat 0 = ys.getD b.toNat 0 := by simp [List.getD, List.getElem?_append_left hbn]
      rw [e1, e2]
/-- Objects: an Act, and a row of floats. -/
abbrev EO (ys vs : List Nat) : St := [.box true 0 [.sl 2 0 0 vs.length, .d (.flt 4607182418800017408)], .arr true 0 1 (ys.map fun v => [.flt v]), .arr true 0 1 (vs.map fun v => [.flt v])]
def clean (b : Nat) : Nat := if FloatKind.f64.format.order b b = some .eq then b else 0
set_option maxHeartbeats 2000000 in
theorem edges_loop (l : List Nat) (nots : List Bool) (hl : l.length ≤ 60) (hb : ∀ x ∈ l, x < 18446744073709551616) : ∀ (k : Nat) (ys vs : List Nat), ys.length + k = l.length → vs = ys ++ List.replicate k 0 → (∀ y ∈ ys, y < 18446744073709551616) →
    ∃ env ys', ys'.length = l.length ∧ (∀ y ∈ ys', y < 18446744073709551616) ∧ env 1 = .d (.fz (nots.map fun b => [.bool b])) ∧ env 5 = .ptr 0 0 0 0 ∧ env 7 = .d (.int .i64 (topTo ys' nots l.length)) ∧
    Lb Try.prog HT 4 0 (lpc Try.prog 4 0) ⟨mkE [(0, .d (.fz (l.map fun b : Nat => [.int .u64 b]))), (1, .d (.fz (nots.map fun b => [.bool b]))), (5, .ptr 0 0 0 0), (7, .d (.int .i64 (topTo ys nots ys.length))), (8, .sl 1 0 0 ys.length), (9, .d (.int .i64 ys.length))], [], EO ys vs⟩ =
      some (.exit 0, ⟨env, [], EO ys' ys'⟩) := by
  intro k
  induction k with
  | zero =>
    intro ys vs hi hvs hy
    have hi : ys.length = l.length := by omega
    have : vs = ys := by simpa using hvs
    subst this
    refine ⟨_, vs, hi, hy, ?_, ?_, ?_, by rw [Lb_lp Try.func4]; simp [EO, lpd, loopsIn, Try.f4, hi]; rfl⟩ <;> simp
  | succ k ih =>
    intro ys vs hi hvs hy
    have hlt : ys.length < l.length := by omega
    have hvl : vs.length = l.length := by rw [hvs]; simp; omega
    obtain ⟨x, hx⟩ : ∃ x, x = l[ys.length] := ⟨_, rfl⟩
    have hx64 : x < 18446744073709551616 := by rw [hx]; exact hb _ (List.getElem_mem hlt)
    have hw : IntKind.i64.wrap ((ys.length : Int) + 1) = ys.length + 1 := wrap_i64 (by omega) (by omega)
    have hsz : (ys.length + 1) * 8 ≤ 140737488355328 := by omega
    have hy0 : clean x < 18446744073709551616 := by unfold clean; split <;> omega
    have hbt := topTo_lt (fs := ys) (nots := nots) ys.length
    obtain ⟨env, ys', h1, h2, h3, h4, h5, ih⟩ := ih (ys ++ [clean x]) (ys ++ [clean x] ++ List.replicate k 0) (by simp; omega) rfl (fun y hm => by
      rcases List.mem_append.1 hm with h | h
      · exact hy y h
      · simp at h; rw [h]; exact hy0)
    have hstep : topTo (ys ++ [clean x]) nots (ys.length + 1) = topStep (ys ++ [clean x]) nots (topTo ys nots ys.length) ys.length := by
      show topStep _ _ (topTo (ys ++ [clean x]) nots ys.length) _ = _
      rw [topTo_app _ (Nat.le_refl _)]
    have hset : vs.set ys.length x = ys ++ [x] ++ List.replicate k 0 := by
      rw [hvs, List.set_append_right _ _ (Nat.le_refl _), Nat.sub_self, List.replicate_succ, List.set_cons_zero]; simp
    have hvs0 : vs = ys ++ [0] ++ List.replicate k 0 := by rw [hvs, List.replicate_succ]; simp
    refine ⟨env, ys', h1, h2, h3, h4, h5, ?_⟩
    rw [Lb_lp Try.func4]
    simp only [List.length_append, List.length_singleton] at ih
    rw [hstep] at ih
    generalize hbest : topTo ys nots ys.length = best at *
    have hvlen : ys.length < vs.length := by omega
    have hq0 : ¬ ((ys.length : Int) < 0) := by omega
    have o0 : FloatKind.f64.format.order 0 0 = some .eq := by kernel_rfl
    -- what is kept, what is told of the put
    obtain ⟨z, hz⟩ : ∃ z, z = clean x := ⟨_, rfl⟩
    rw [← hz] at ih hy0
    have hcmp : ∀ b, b < ys.length → S.f 16 [.d (.flt z), .d (.flt (ys.getD b 0))] [] = some (.ret (.d (.int .i64 (wcmp z (ys.getD b 0)))), []) := fun b hb => compare_ok hy0 (by
      simp [List.getD, hb]; exact hy _ (List.getElem_mem hb))
    have cases3 : best < 0 ∨ (∃ b : Nat, best = b ∧ b < ys.length ∧ 0 < wcmp z (ys.getD b 0)) ∨ (∃ b : Nat, best = b ∧ b < ys.length ∧ ¬ 0 < wcmp z (ys.getD b 0)) := by
      by_cases h : best < 0
      · exact .inl h
      · by_cases h' : 0 < wcmp z (ys.getD best.toNat 0)
        · exact .inr (.inl ⟨best.toNat, by omega, by omega, h'⟩)
        · exact .inr (.inr ⟨best.toNat, by omega, by omega, h'⟩)
    have cases2 : (∃ h : ys.length < nots.length, nots[ys.length] = true) ∨ (∃ h : ys.length < nots.length, nots[ys.length] = false) ∨ ¬ ys.length < nots.length := by
      by_cases h : ys.length < nots.length
      · cases hv : nots[ys.length] with
        | true => exact .inl ⟨h, hv⟩
        | false => exact .inr (.inl ⟨h, hv⟩)
      · exact .inr (.inr h)
    by_cases hn : FloatKind.f64.format.order x x = some .eq
    · have hp := put_ok (fs := vs) (inc := 4607182418800017408) (k := ys.length) (by omega) hvlen hn
      have hcl : z = x := by rw [hz]; unfold clean; rw [if_pos hn]
      subst hcl
      have hset' : (vs.map fun v => [VL.D.flt v]).set ys.length [VL.D.flt z] = (ys ++ [z] ++ List.replicate k 0).map fun v => [VL.D.flt v] := by rw [← hset, List.map_set]
      simp [AO, hvl, hset'] at hp
      rcases cases2 with ⟨c1, c2⟩ | ⟨c1, c2⟩ | c1 <;> rcases cases3 with d1 | ⟨b, rfl, d1, d2⟩ | ⟨b, rfl, d1, d2⟩
      all_goals
        first
        | have d3 := hcmp b d1
          have d4 : b < ys.length + 1 := by omega
          have d5 : ¬ ((b : Int) < 0) := by omega
          have d6 : (b : Int) < ys.length + 1 := by omega
          have hgd : ys.getD b 0 = ys[b] := by simp [List.getD, d1]
          rw [hgd] at d2 d3
          first
          | simp [EO, lpd, loopsIn, Try.f4, ht4, L4, hlt, hw, ← hx, from_ok, hp, check_ok, hn, hsz, c1, Nat.not_le.2 c1, c2, d1, d2, d3, d4, d5, d6, hvl]
            simp [EO, topStep, List.getD, c1, c2, d1, d2, d5, hi, List.getElem?_append_left d1] at ih
            exact ih
          | simp [EO, lpd, loopsIn, Try.f4, ht4, L4, hlt, hw, ← hx, from_ok, hp, check_ok, hn, hsz, c1, Nat.not_lt.1 c1, d1, d2, d3, d4, d5, d6, hvl]
            simp [EO, topStep, List.getD, Nat.not_lt.1 c1, d1, d2, d5, hi, List.getElem?_append_left d1] at ih
            exact ih
        | simp [EO, lpd, loopsIn, Try.f4, ht4, L4, hlt, hw, ← hx, from_ok, hp, check_ok, hn, hsz, c1, Nat.not_le.2 c1, c2, d1, hvl]
          simp [EO, topStep, List.getD, c1, c2, d1, hi] at ih
          exact ih
        | simp [EO, lpd, loopsIn, Try.f4, ht4, L4, hlt, hw, ← hx, from_ok, hp, check_ok, hn, hsz, c1, Nat.not_lt.1 c1, d1, hvl]
          simp [EO, topStep, List.getD, Nat.not_lt.1 c1, d1, hi] at ih
          exact ih
    · have hp := put_bad (fs := vs) (inc := 4607182418800017408) (k := ys.length) (by omega) hvlen hn
      have hcl : z = 0 := by rw [hz]; unfold clean; rw [if_neg hn]
      subst hcl
      have hvm : (vs.map fun v => [VL.D.flt v]) = (ys ++ [0] ++ List.replicate k 0).map fun v => [VL.D.flt v] := by rw [hvs0]
      simp [AO, hvl, hvm] at hp
      rcases cases2 with ⟨c1, c2⟩ | ⟨c1, c2⟩ | c1 <;> rcases cases3 with d1 | ⟨b, rfl, d1, d2⟩ | ⟨b, rfl, d1, d2⟩
      all_goals
        first
        | have d3 := hcmp b d1
          have d4 : b < ys.length + 1 := by omega
          have d5 : ¬ ((b : Int) < 0) := by omega
          have d6 : (b : Int) < ys.length + 1 := by omega
          have hgd : ys.getD b 0 = ys[b] := by simp [List.getD, d1]
          rw [hgd] at d2 d3
          first
          | simp [EO, lpd, loopsIn, Try.f4, ht4, L4, hlt, hw, ← hx, from_ok, hp, hvm, check_ok, hn, hsz, c1, Nat.not_le.2 c1, c2, d1, d2, d3, d4, d5, d6, hvl]
            simp [EO, topStep, List.getD, c1, c2, d1, d2, d5, hi, List.getElem?_append_left d1] at ih
            exact ih
          | simp [EO, lpd, loopsIn, Try.f4, ht4, L4, hlt, hw, ← hx, from_ok, hp, hvm, check_ok, hn, hsz, c1, Nat.not_lt.1 c1, d1, d2, d3, d4, d5, d6, hvl]
            simp [EO, topStep, List.getD, Nat.not_lt.1 c1, d1, d2, d5, hi, List.getElem?_append_left d1] at ih
            exact ih
        | simp [EO, lpd, loopsIn, Try.f4, ht4, L4, hlt, hw, ← hx, from_ok, hp, hvm, check_ok, hn, hsz, c1, Nat.not_le.2 c1, c2, d1, hvl]
          simp [EO, topStep, List.getD, c1, c2, d1, hi] at ih
          exact ih
        | simp [EO, lpd, loopsIn, Try.f4, ht4, L4, hlt, hw, ← hx, from_ok, hp, hvm, check_ok, hn, hsz, c1, Nat.not_lt.1 c1, d1, hvl]
          simp [EO, topStep, List.getD, Nat.not_lt.1 c1, d1, hi] at ih
          exact ih
theorem act_edges (l : List Nat) (nots : List Bool) (hb : ∀ x ∈ l, x < 18446744073709551616) : S.f 4 [.d (.fz (l.map fun b : Nat => [.int .u64 b])), .d (.fz (nots.map fun b => [.bool b]))] [] = some (.ret (.d (.bool true)), []) := by
  refine SL_enter Try.func4 rfl ht4 rfl ?_
  by_cases hl : l.length ≤ 60
  · by_cases hn : nots.length ≤ 60
    · have hl' : ¬ 60 < (l.length : Int) := by omega
      have hn' : ¬ 60 < (nots.length : Int) := by omega
      have hnew := new_ok (n := l.length) (by omega)
      obtain ⟨env, ys, h1, h2, e1, e5, e7, hloop⟩ := edges_loop l nots hl hb l.length [] (List.replicate l.length 0) (by simp) (by simp) (by simp)
      have htop := top_ok (fs := ys) (inc := 4607182418800017408) (nots := nots) (by omega) h2
      rw [h1] at htop
      have hbt := topTo_lt (fs := ys) (nots := nots) l.length
      have hw : IntKind.i64.wrap (topTo ys nots l.length + 1) = topTo ys nots l.length + 1 := wrap_i64 (by omega) (by omega)
      simp [AO, h1] at hnew htop
      simp [EO, topTo, h1] at hloop
      by_cases hp : 0 ≤ topTo ys nots l.length
      · simp [Try.f4, ht4, L4, known_true, hl', hn', hnew, hloop, e1, e5, e7, htop, hw, hp]
      · simp [Try.f4, ht4, L4, known_true, hl', hn', hnew, hloop, e1, e5, e7, htop, hw, hp]
    · have hl' : ¬ 60 < (l.length : Int) := by omega
      have hn' : 60 < (nots.length : Int) := by omega
      simp [Try.f4, ht4, known_true, hl', hn']
  · have hl' : 60 < (l.length : Int) := by omega
    simp [Try.f4, ht4, known_true, hl']
end Go.VL.Try
set_option maxRecDepth 10000
namespace Go.VL.Try
open Go Go.VL Go.Proofs

/-! The reference's weights -/
def rkey (f : Nat) : Int := if FloatKind.f64.format.order f f = some .eq then (if FloatKind.f64.format.order f 0 = some .lt then -2 else if FloatKind.f64.format.order f 0 = some .gt then 2 else if 9223372036854775808 ≤ f then -1 else 1)
  else if 9223372036854775808 ≤ f then -3 else 3
def rcmp (a b : Nat) : Int := if rkey a ≠ rkey b then cmpI (rkey a) (rkey b) else if FloatKind.f64.format.order a b = some .lt then -1 else if FloatKind.f64.format.order a b = some .gt then 1 else 0
theorem rsign_ok {a b : Int} : S.f 49 [.d (.int .i64 a), .d (.int .i64 b)] [] = some (.ret (.d (.int .i64 (cmpI a b))), []) := by
  refine SL_enter Try.func49 rfl ht49 rfl ?_
  simp [Try.f49, ht49, cmpI]
  (repeat' split) <;> first | rfl | omega | simp_all
theorem neg_bit {b : Nat} (hb : b < 18446744073709551616) : ((b : Int).fdiv 9223372036854775808 = 1) = (9223372036854775808 ≤ b) := by
  rw [Int.fdiv_eq_ediv_of_nonneg _ (by decide)]
  apply propext
  omega
theorem rkey_ok {b : Nat} (hb : b < 18446744073709551616) : S.f 48 [.d (.flt b)] [] = some (.ret (.d (.int .i64 (rkey b))), []) := by
  refine SL_enter Try.func48 rfl ht48 rfl ?_
  have e := neg_bit hb
  by_cases h1 : FloatKind.f64.format.order b b = some .eq
  · by_cases h2 : FloatKind.f64.format.order b 0 = some .lt
    · simp [Try.f48, ht48, bits_ok, rkey, IntKind.bits, e, h1, h2]
    · by_cases h3 : FloatKind.f64.format.order b 0 = some .gt
      · simp [Try.f48, ht48, bits_ok, rkey, IntKind.bits, e, h1, h2, h3]
      · by_cases h4 : 9223372036854775808 ≤ b
        · simp [Try.f48, ht48, bits_ok, rkey, IntKind.bits, e, h1, h2, h3, h4]
        · simp [Try.f48, ht48, bits_ok, rkey, IntKind.bits, e, h1, h2, h3, h4]
  · by_cases h4 : 9223372036854775808 ≤ b
    · simp [Try.f48, ht48, bits_ok, rkey, IntKind.bits, e, h1, h4]
    · simp [Try.f48, ht48, bits_ok, rkey, IntKind.bits, e, h1, h4]
theorem rcmp_ok {a b : Nat} (ha : a < 18446744073709551616) (hb : b < 18446744073709551616) : S.f 41 [.d (.flt a), .d (.flt b)] [] = some (.ret (.d (.int .i64 (rcmp a b))), []) := by
  refine SL_enter Try.func41 rfl ht41 rfl ?_
  by_cases h1 : rkey a = rkey b
  · simp [Try.f41, ht41, rkey_ok ha, rkey_ok hb, rcmp, h1]
    (repeat' split) <;> first | rfl | simp_all
  · simp [Try.f41, ht41, rkey_ok ha, rkey_ok hb, rsign_ok, rcmp, h1]
theorem rcheck_ok {b : Nat} : S.f 37 [.d (.flt b)] [] = some (.ret (.d (.int .i64 (if FloatKind.f64.format.order b b = some .eq then 0 else 8))), []) := by
  refine SL_enter Try.func37 rfl ht37 rfl ?_
  simp [Try.f37, ht37]
  (repeat' split) <;> first | rfl | simp_all
theorem most_ok : S.f 38 [] [] = some (.ret (.d (.flt 5958262307011166208)), []) := SL_run 60 (by kernel_rfl)
theorem parse_small : S.f 47 [.d (.str [49, 112, 45, 51, 48, 48])] [] = some (.ret (.tup [.d (.flt 3256102530588868608), .d (.int .i64 0)]), []) := SL_run 60 (by kernel_rfl)

/-! Both orders say the same of floats that are no NaNs -/
theorem fneg_bit {x : Nat} (h : x < 18446744073709551616) : fneg x = decide (9223372036854775808 ≤ x) := by
  unfold fneg fS
  by_cases h1 : 9223372036854775808 ≤ x
  · have : x / 9223372036854775808 = 1 := by omega
    rw [this]; simp [h1]
  · rw [Nat.div_eq_of_lt (by omega)]; simp [h1]
theorem fval0 {x : Nat} (hx : x < 18446744073709551616) : fval x = 0 ↔ x = 0 ∨ x = 9223372036854775808 := by
  have hm : fmag (frung x) = 0 ↔ frung x = 0 := ⟨fun h => fmag_inj (by rw [h]; rfl), fun h => by rw [h]; rfl⟩
  unfold fval
  have : (if fneg x = true then -(fmag (frung x) : Int) else (fmag (frung x) : Int)) = 0 ↔ fmag (frung x) = 0 := by split <;> omega
  rw [this, hm]
  unfold frung fS
  omega
theorem fval_nought : fval 0 = 0 := by decide
theorem cmp_same {a b : Nat} (ha : a < 18446744073709551616) (hb : b < 18446744073709551616) (oa : fok a) (ob : fok b) : 0 < rcmp a b ↔ 0 < wcmp a b := by
  have ha1 : FloatKind.f64.format.order a a = some .eq := by rw [order_fval oa oa]; simp [cmpZ]
  have hb1 : FloatKind.f64.format.order b b = some .eq := by rw [order_fval ob ob]; simp [cmpZ]
  have o0 : fok 0 := by decide
  have p1 : plc a = 0 := by unfold plc; rw [ha1]; rfl
  have p2 : plc b = 0 := by unfold plc; rw [hb1]; rfl
  unfold rcmp wcmp
  rw [p1, p2]
  have key : ∀ x, x < 18446744073709551616 → fok x → rkey x = if fval x < 0 then -2 else if 0 < fval x then 2 else if 9223372036854775808 ≤ x then -1 else 1 := by
    intro x hx ox
    unfold rkey
    rw [order_fval ox ox, order_fval ox o0, fval_nought]
    have e : cmpZ (fval x) (fval x) = .eq := by simp [cmpZ]
    rw [e]
    unfold cmpZ
    rcases Int.lt_trichotomy (fval x) 0 with h | h | h
    · simp [h]
    · simp [h]
    · have h1 : ¬ fval x < 0 := by omega
      have h2 : ¬ fval x = 0 := by omega
      simp [h, h1, h2]
  rw [key a ha oa, key b hb ob, order_fval oa ob, order_fval oa o0, fval_nought]
  unfold cmpZ sgn cmpI
  have z1 := fval0 ha
  have z2 := fval0 hb
  rcases Int.lt_trichotomy (fval a) 0 with h | h | h <;> rcases Int.lt_trichotomy (fval b) 0 with h' | h' | h' <;> rcases Int.lt_trichotomy (fval a) (fval b) with h'' | h'' | h'' <;>
    first
    | omega
    | (simp [h, h', h'', Int.lt_asymm, Int.ne_of_lt, Int.ne_of_gt] <;> first | omega | (split <;> split <;> simp <;> omega))
    | skip
end Go.VL.Try
