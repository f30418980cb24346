/- ActEdges returns true, whatever the input; its arguments read as they did: no condition. -/
import Derived.Test.YtbgjkpokmlkgiaaRows
import Derived.ProofKit
import Derived.Test.YtbgjkpokmlkgiaaB
import Derived.Test.YtbgjkpokmlkgiaaVe
set_option maxRecDepth 10000
namespace Go.VL.Try
open Go Go.VL Go.Proofs
section
variable {fs : List Nat} {inc : Nat}
theorem put_out {k : Int} {b : Nat} (hk : ¬ (1 ≤ k ∧ k ≤ fs.length)) : S.f 14 [.ptr 0 0 0 0, .d (.int .i64 k), .d (.flt b)] (AO fs inc) = some (.ret (.d (.int .i64 1)), AO fs inc) := by
  refine SL_enter Try.func14 rfl ht14 rfl ?_
  simp [Try.f14, ht14, known_ok, hk, must_false, catch_some]
theorem put_bad {k b : Nat} (hl : fs.length ≤ 256) (hk : k < fs.length) (hb : FloatKind.f64.format.order b b ≠ some .eq) : S.f 14 [.ptr 0 0 0 0, .d (.int .i64 (k + 1)), .d (.flt b)] (AO fs inc) = some (.ret (.d (.int .i64 8)), AO fs inc) := by
  refine SL_enter Try.func14 rfl ht14 rfl ?_
  have h1 : (1:Int) ≤ (k:Int) + 1 := by omega
  have h2 : (k:Int) + 1 ≤ fs.length := by omega
  simp [Try.f14, ht14, known_ok, h1, h2, must_true, must_false, check_ok, hb, catch_some]
theorem put_ok {k b : Nat} (hl : fs.length ≤ 256) (hk : k < fs.length) (hb : FloatKind.f64.format.order b b = some .eq) : S.f 14 [.ptr 0 0 0 0, .d (.int .i64 (k + 1)), .d (.flt b)] (AO fs inc) = some (.ret (.d (.int .i64 0)), AO (fs.set k b) inc) := by
  refine SL_enter Try.func14 rfl ht14 rfl ?_
  have h1 : (1:Int) ≤ (k:Int) + 1 := by omega
  have h2 : (k:Int) + 1 ≤ fs.length := by omega
  have hw : IntKind.i64.wrap (k : Int) = k := wrap_i64 (by omega) (by omega)
  simp [Try.f14, ht14, known_ok, h1, h2, must_true, check_ok, hb, hw, hk, catch_none]
end
theorem topTo_app {ys zs : List Nat} {nots : List Bool} : ∀ q, q ≤ ys.length → topTo (ys ++ zs) nots q = topTo ys nots q
  | 0, _ => (rfl)
  | q + 1, h => by
    have ih := topTo_app (ys := ys) (zs := zs) (nots := nots) q (by omega)
    have hb := topTo_lt (fs := ys) (nots := nots) q
    show topStep (ys ++ zs) nots (topTo (ys ++ zs) nots q) q = topStep ys nots (topTo ys nots q) q
    rw [ih]
    generalize topTo ys nots q = b at hb
    unfold topStep
    by_cases hneg : b < 0
    · simp [hneg]
    · have e1 : (ys ++ zs).getD q 0 = ys.getD q 0 := by simp [List.getD, List.getElem?_append_left (show q < ys.length by omega)]
      have hbn : b.toNat < ys.length := by omega
      have e2 : (ys ++ zs).getD b.toNat 0 = ys.getD b.toNat 0 := by simp [List.getD, List.getElem?_append_left hbn]
      rw [e1, e2]
/-- Objects: an Act, and a row of floats. -/
abbrev EO (ys vs : List Nat) : St := [.box true 0 [.sl 2 0 0 vs.length, .d (.flt 4607182418800017408)], .arr true 0 1 (ys.map fun v => [.flt v]), .arr true 0 1 (vs.map fun v => [.flt v])]
def clean (b : Nat) : Nat := if FloatKind.f64.format.order b b = some .eq then b else 0
set_option maxHeartbeats 2000000 in
theorem edges_loop (l : List Nat) (nots : List Bool) (hl : l.length ≤ 60) (hb : ∀ x ∈ l, x < 18446744073709551616) : ∀ (k : Nat) (ys vs : List Nat), ys.length + k = l.length → vs = ys ++ List.replicate k 0 → (∀ y ∈ ys, y < 18446744073709551616) →
    ∃ env ys', ys'.length = l.length ∧ (∀ y ∈ ys', y < 18446744073709551616) ∧ env 1 = .d (.fz (nots.map fun b => [.bool b])) ∧ env 5 = .ptr 0 0 0 0 ∧ env 7 = .d (.int .i64 (topTo ys' nots l.length)) ∧
    Lb Try.prog HT 4 0 (lpc Try.prog 4 0) ⟨mkE [(0, .d (.fz (l.map fun b : Nat => [.int .u64 b]))), (1, .d (.fz (nots.map fun b => [.bool b]))), (5, .ptr 0 0 0 0), (7, .d (.int .i64 (topTo ys nots ys.length))), (8, .sl 1 0 0 ys.length), (9, .d (.int .i64 ys.length))], [], EO ys vs⟩ =
      some (.exit 0, ⟨env, [], EO ys' ys'⟩) := by
  intro k
  induction k with
  | zero =>
    intro ys vs hi hvs hy
    have hi : ys.length = l.length := by omega
    have : vs = ys := by simpa using hvs
    subst this
    refine ⟨_, vs, hi, hy, ?_, ?_, ?_, by rw [Lb_lp Try.func4]; simp [EO, lpd, loopsIn, Try.f4, hi]; rfl⟩ <;> simp
  | succ k ih =>
    intro ys vs hi hvs hy
    have hlt : ys.length < l.length := by omega
    have hvl : vs.length = l.length := by rw [hvs]; simp; omega
    obtain ⟨x, hx⟩ : ∃ x, x = l[ys.length] := ⟨_, rfl⟩
    have hx64 : x < 18446744073709551616 := by rw [hx]; exact hb _ (List.getElem_mem hlt)
    have hw : IntKind.i64.wrap ((ys.length : Int) + 1) = ys.length + 1 := wrap_i64 (by omega) (by omega)
    have hsz : (ys.length + 1) * 8 ≤ 140737488355328 := by omega
    have hy0 : clean x < 18446744073709551616 := by unfold clean; split <;> omega
    have hbt := topTo_lt (fs := ys) (nots := nots) ys.length
    obtain ⟨env, ys', h1, h2, h3, h4, h5, ih⟩ := ih (ys ++ [clean x]) (ys ++ [clean x] ++ List.replicate k 0) (by simp; omega) rfl (fun y hm => by
      rcases List.mem_append.1 hm with h | h
      · exact hy y h
      · simp at h; rw [h]; exact hy0)
    have hstep : topTo (ys ++ [clean x]) nots (ys.length + 1) = topStep (ys ++ [clean x]) nots (topTo ys nots ys.length) ys.length := by
      show topStep _ _ (topTo (ys ++ [clean x]) nots ys.length) _ = _
      rw [topTo_app _ (Nat.le_refl _)]
    have hset : vs.set ys.length x = ys ++ [x] ++ List.replicate k 0 := by
      rw [hvs, List.set_append_right _ _ (Nat.le_refl _), Nat.sub_self, List.replicate_succ, List.set_cons_zero]; simp
    have hvs0 : vs = ys ++ [0] ++ List.replicate k 0 := by rw [hvs, List.replicate_succ]; simp
    refine ⟨env, ys', h1, h2, h3, h4, h5, ?_⟩
    rw [Lb_lp Try.func4]
    simp only [List.length_append, List.length_singleton] at ih
    rw [hstep] at ih
    generalize hbest : topTo ys nots ys.length = best at *
    have hvlen : ys.length < vs.length := by omega
    have hq0 : ¬ ((ys.length : Int) < 0) := by omega
    have o0 : FloatKind.f64.format.order 0 0 = some .eq := by kernel_rfl
    -- what is kept, what is told of the put
    obtain ⟨z, hz⟩ : ∃ z, z = clean x := ⟨_, rfl⟩
    rw [← hz] at ih hy0
    have hcmp : ∀ b, b < ys.length → S.f 16 [.d (.flt z), .d (.flt (ys.getD b 0))] [] = some (.ret (.d (.int .i64 (wcmp z (ys.getD b 0)))), []) := fun b hb => compare_ok hy0 (by
      simp [List.getD, hb]; exact hy _ (List.getElem_mem hb))
    have cases3 : best < 0 ∨ (∃ b : Nat, best = b ∧ b < ys.length ∧ 0 < wcmp z (ys.getD b 0)) ∨ (∃ b : Nat, best = b ∧ b < ys.length ∧ ¬ 0 < wcmp z (ys.getD b 0)) := by
      by_cases h : best < 0
      · exact .inl h
      · by_cases h' : 0 < wcmp z (ys.getD best.toNat 0)
        · exact .inr (.inl ⟨best.toNat, by omega, by omega, h'⟩)
        · exact .inr (.inr ⟨best.toNat, by omega, by omega, h'⟩)
    have cases2 : (∃ h : ys.length < nots.length, nots[ys.length] = true) ∨ (∃ h : ys.length < nots.length, nots[ys.length] = false) ∨ ¬ ys.length < nots.length := by
      by_cases h : ys.length < nots.length
      · cases hv : nots[ys.length] with
        | true => exact .inl ⟨h, hv⟩
        | false => exact .inr (.inl ⟨h, hv⟩)
      · exact .inr (.inr h)
    by_cases hn : FloatKind.f64.format.order x x = some .eq
    · have hp := put_ok (fs := vs) (inc := 4607182418800017408) (k := ys.length) (by omega) hvlen hn
      have hcl : z = x := by rw [hz]; unfold clean; rw [if_pos hn]
      subst hcl
      have hset' : (vs.map fun v => [VL.D.flt v]).set ys.length [VL.D.flt z] = (ys ++ [z] ++ List.replicate k 0).map fun v => [VL.D.flt v] := by rw [← hset, List.map_set]
      simp [AO, hvl, hset'] at hp
      rcases cases2 with ⟨c1, c2⟩ | ⟨c1, c2⟩ | c1 <;> rcases cases3 with d1 | ⟨b, rfl, d1, d2⟩ | ⟨b, rfl, d1, d2⟩
      all_goals
        first
        | have d3 := hcmp b d1
          have d4 : b < ys.length + 1 := by omega
          have d5 : ¬ ((b : Int) < 0) := by omega
          have d6 : (b : Int) < ys.length + 1 := by omega
          have hgd : ys.getD b 0 = ys[b] := by simp [List.getD, d1]
          rw [hgd] at d2 d3
          first
          | simp [EO, lpd, loopsIn, Try.f4, ht4, L4, hlt, hw, ← hx, from_ok, hp, check_ok, hn, hsz, c1, Nat.not_le.2 c1, c2, d1, d2, d3, d4, d5, d6, hvl]
            simp [EO, topStep, List.getD, c1, c2, d1, d2, d5, hi, List.getElem?_append_left d1] at ih
            exact ih
          | simp [EO, lpd, loopsIn, Try.f4, ht4, L4, hlt, hw, ← hx, from_ok, hp, check_ok, hn, hsz, c1, Nat.not_lt.1 c1, d1, d2, d3, d4, d5, d6, hvl]
            simp [EO, topStep, List.getD, Nat.not_lt.1 c1, d1, d2, d5, hi, List.getElem?_append_left d1] at ih
            exact ih
        | simp [EO, lpd, loopsIn, Try.f4, ht4, L4, hlt, hw, ← hx, from_ok, hp, check_ok, hn, hsz, c1, Nat.not_le.2 c1, c2, d1, hvl]
          simp [EO, topStep, List.getD, c1, c2, d1, hi] at ih
          exact ih
        | simp [EO, lpd, loopsIn, Try.f4, ht4, L4, hlt, hw, ← hx, from_ok, hp, check_ok, hn, hsz, c1, Nat.not_lt.1 c1, d1, hvl]
          simp [EO, topStep, List.getD, Nat.not_lt.1 c1, d1, hi] at ih
          exact ih
    · have hp := put_bad (fs := vs) (inc := 4607182418800017408) (k := ys.length) (by omega) hvlen hn
      have hcl : z = 0 := by rw [hz]; unfold clean; rw [if_neg hn]
      subst hcl
      have hvm : (vs.map fun v => [VL.D.flt v]) = (ys ++ [0] ++ List.replicate k 0).map fun v => [VL.D.flt v] := by rw [hvs0]
      simp [AO, hvl, hvm] at hp
      rcases cases2 with ⟨c1, c2⟩ | ⟨c1, c2⟩ | c1 <;> rcases cases3 with d1 | ⟨b, rfl, d1, d2⟩ | ⟨b, rfl, d1, d2⟩
      all_goals
        first
        | have d3 := hcmp b d1
          have d4 : b < ys.length + 1 := by omega
          have d5 : ¬ ((b : Int) < 0) := by omega
          have d6 : (b : Int) < ys.length + 1 := by omega
          have hgd : ys.getD b 0 = ys[b] := by simp [List.getD, d1]
          rw [hgd] at d2 d3
          first
          | simp [EO, lpd, loopsIn, Try.f4, ht4, L4, hlt, hw, ← hx, from_ok, hp, hvm, check_ok, hn, hsz, c1, Nat.not_le.2 c1, c2, d1, d2, d3, d4, d5, d6, hvl]
            simp [EO, topStep, List.getD, c1, c2, d1, d2, d5, hi, List.getElem?_append_left d1] at ih
            exact ih
          | simp [EO, lpd, loopsIn, Try.f4, ht4, L4, hlt, hw, ← hx, from_ok, hp, hvm, check_ok, hn, hsz, c1, Nat.not_lt.1 c1, d1, d2, d3, d4, d5, d6, hvl]
            simp [EO, topStep, List.getD, Nat.not_lt.1 c1, d1, d2, d5, hi, List.getElem?_append_left d1] at ih
            exact ih
        | simp [EO, lpd, loopsIn, Try.f4, ht4, L4, hlt, hw, ← hx, from_ok, hp, hvm, check_ok, hn, hsz, c1, Nat.not_le.2 c1, c2, d1, hvl]
          simp [EO, topStep, List.getD, c1, c2, d1, hi] at ih
          exact ih
        | simp [EO, lpd, loopsIn, Try.f4, ht4, L4, hlt, hw, ← hx, from_ok, hp, hvm, check_ok, hn, hsz, c1, Nat.not_lt.1 c1, d1, hvl]
          simp [EO, topStep, List.getD, Nat.not_lt.1 c1, d1, hi] at ih
          exact ih
theorem act_edges (l : List Nat) (nots : List Bool) (hb : ∀ x ∈ l, x < 18446744073709551616) : S.f 4 [.d (.fz (l.map fun b : Nat => [.int .u64 b])), .d (.fz (nots.map fun b => [.bool b]))] [] = some (.ret (.d (.bool true)), []) := by
  refine SL_enter Try.func4 rfl ht4 rfl ?_
  by_cases hl : l.length ≤ 60
  · by_cases hn : nots.length ≤ 60
    · have hl' : ¬ 60 < (l.length : Int) := by omega
      have hn' : ¬ 60 < (nots.length : Int) := by omega
      have hnew := new_ok (n := l.length) (by omega)
      obtain ⟨env, ys, h1, h2, e1, e5, e7, hloop⟩ := edges_loop l nots hl hb l.length [] (List.replicate l.length 0) (by simp) (by simp) (by simp)
      have htop := top_ok (fs := ys) (inc := 4607182418800017408) (nots := nots) (by omega) h2
      rw [h1] at htop
      have hbt := topTo_lt (fs := ys) (nots := nots) l.length
      have hw : IntKind.i64.wrap (topTo ys nots l.length + 1) = topTo ys nots l.length + 1 := wrap_i64 (by omega) (by omega)
      simp [AO, h1] at hnew htop
      simp [EO, topTo, h1] at hloop
      by_cases hp : 0 ≤ topTo ys nots l.length
      · simp [Try.f4, ht4, L4, known_true, hl', hn', hnew, hloop, e1, e5, e7, htop, hw, hp]
      · simp [Try.f4, ht4, L4, known_true, hl', hn', hnew, hloop, e1, e5, e7, htop, hw, hp]
    · have hl' : ¬ 60 < (l.length : Int) := by omega
      have hn' : 60 < (nots.length : Int) := by omega
      simp [Try.f4, ht4, known_true, hl', hn']
  · have hl' : 60 < (l.length : Int) := by omega
    simp [Try.f4, ht4, known_true, hl']
end Go.VL.Try
