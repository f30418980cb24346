/- Rows of plain numbers, out of their cells. -/
import Derived.Test.YtbgjkpokmlkgiaaH1
import Derived.Test.YtbgjkpokmlkgiaaVe
set_option maxRecDepth 10000
namespace Go.VL.Try
open Go Go.VL Go.Proofs
noncomputable abbrev S := SL Try.prog HT
theorem wrap_i64 {n : Int} (h : -9223372036854775808 ≤ n) (h' : n ≤ 9223372036854775807) : IntKind.i64.wrap n = n := Go.VL.wrap_i64 h h'

theorem must_true {e : VL.D} : S.f 31 [.d (.bool true), .d e] [] = some (.ret (.tup []), []) := by
  refine SL_enter Try.func31 rfl ht31 rfl ?_
  simp [Try.f31, ht31]
theorem must_false {e : Int} : S.f 31 [.d (.bool false), .d (.int .i64 e)] [] = some (.pan (.ifc 25 (.int .i64 e)), []) := by
  refine SL_enter Try.func31 rfl ht31 rfl ?_
  simp [Try.f31, ht31]
theorem catch_none {x : VL.D} : S.d ⟨30, [], [.ptr 0 0 0 0]⟩ [.box true 0 [.d x]] none = some (none, [.box true 0 [.d x]]) := by
  refine SL_catch Try.func30 rfl rfl ht30 rfl rfl ?_
  simp
theorem catch_some {x : VL.D} {e : Int} : S.d ⟨30, [], [.ptr 0 0 0 0]⟩ [.box true 0 [.d x]] (some (.ifc 25 (.int .i64 e))) = some (none, [.box true 0 [.d (.int .i64 e)]]) := by
  refine SL_catch Try.func30 rfl rfl ht30 rfl rfl ?_
  simp
theorem bits_ok {b : Nat} : S.f 43 [.d (.flt b)] [] = some (.ret (.d (.int .u64 b)), []) := SL_ext (e := extBits) (by kernel_rfl) rfl
theorem from_ok {b : Int} : S.f 13 [.d (.int .u64 b)] [] = some (.ret (.d (.flt b.toNat)), []) := SL_ext (e := extFrom) (by kernel_rfl) rfl
theorem signbit_ok {b : Nat} (hb : b < 18446744073709551616) : S.f 42 [.d (.flt b)] [] = some (.ret (.d (.bool (decide (9223372036854775808 ≤ b)))), []) := by
  refine SL_enter Try.func42 rfl ht42 rfl ?_
  have e : decide (IntKind.i64.wrap (b : Int) < 0) = decide (9223372036854775808 ≤ b) := by
    simp only [IntKind.wrap, IntKind.bits, IntKind.signed]
    simp
    omega
  simp [Try.f42, ht42, bits_ok, e]
theorem check_ok {b : Nat} : S.f 15 [.d (.flt b)] [] = some (.ret (.d (.int .i64 (if FloatKind.f64.format.order b b = some .eq then 0 else 8))), []) := by
  refine SL_enter Try.func15 rfl ht15 rfl ?_
  simp [Try.f15, ht15]
  (repeat' split) <;> first | rfl | simp_all
def cmpI (a b : Int) : Int := if a < b then -1 else if b < a then 1 else 0
theorem isNaN_ok {b : Int} : S.f 46 [.d (.int .i64 b)] [] = some (.ret (.d (.bool false)), []) := by
  refine SL_enter Try.func46 rfl ht46 rfl ?_
  simp [Try.f46, ht46]
theorem cmp_ok {a b : Int} : S.f 35 [.d (.int .i64 a), .d (.int .i64 b)] [] = some (.ret (.d (.int .i64 (cmpI a b))), []) := by
  refine SL_enter Try.func35 rfl ht35 rfl ?_
  simp [Try.f35, ht35, isNaN_ok, cmpI]
  (repeat' split) <;> first | rfl | omega | simp_all
def plc (b : Nat) : Int := if FloatKind.f64.format.order b b = some .eq then 0 else if 9223372036854775808 ≤ b then -1 else 1
def sgn (b : Nat) : Int := if 9223372036854775808 ≤ b then -1 else 1
theorem place_ok {b : Nat} (hb : b < 18446744073709551616) : S.f 34 [.d (.flt b)] [] = some (.ret (.d (.int .i64 (plc b))), []) := by
  refine SL_enter Try.func34 rfl ht34 rfl ?_
  simp [Try.f34, ht34, signbit_ok hb, plc]
  (repeat' split) <;> first | rfl | omega | simp_all
theorem sign_ok {b : Nat} (hb : b < 18446744073709551616) : S.f 36 [.d (.flt b)] [] = some (.ret (.d (.int .i64 (sgn b))), []) := by
  refine SL_enter Try.func36 rfl ht36 rfl ?_
  simp [Try.f36, ht36, signbit_ok hb, sgn]
  (repeat' split) <;> first | rfl | simp_all
def wcmp (a b : Nat) : Int :=
  if plc a ≠ 0 ∨ plc b ≠ 0 then cmpI (plc a) (plc b) else if FloatKind.f64.format.order a b = some .lt then -1 else if FloatKind.f64.format.order a b = some .gt then 1
  else if FloatKind.f64.format.order a 0 ≠ some .eq then 0 else cmpI (sgn a) (sgn b)
theorem compare_ok {a b : Nat} (ha : a < 18446744073709551616) (hb : b < 18446744073709551616) : S.f 16 [.d (.flt a), .d (.flt b)] [] = some (.ret (.d (.int .i64 (wcmp a b))), []) := by
  refine SL_enter Try.func16 rfl ht16 rfl ?_
  by_cases h1 : plc a = 0
  · by_cases h2 : plc b = 0
    · simp [Try.f16, ht16, place_ok ha, place_ok hb, sign_ok ha, sign_ok hb, cmp_ok, wcmp, h1, h2]
      (repeat' split) <;> simp_all
    · simp [Try.f16, ht16, place_ok ha, place_ok hb, cmp_ok, wcmp, h1, h2]
  · simp [Try.f16, ht16, place_ok ha, place_ok hb, cmp_ok, wcmp, h1]

/-- An Act's objects. -/
abbrev AO (fs : List Nat) (inc : Nat) : St := [.box true 0 [.sl 1 0 0 fs.length, .d (.flt inc)], .arr true 0 1 (fs.map fun v => [.flt v])]
theorem new_ok {n : Nat} (hn : n ≤ 256) : S.f 8 [.d (.int .i64 n)] [] = some (.ret (.tup [.ptr 0 0 0 0, .d (.int .i64 0)]), AO (List.replicate n 0) 4607182418800017408) := by
  refine SL_enter Try.func8 rfl ht8 rfl ?_
  have h1 : ¬ ((n : Int) < 0) := by omega
  have h2 : ¬ ((256 : Int) < n) := by omega
  have h3 : (n : Int) * 8 ≤ 140737488355328 := by omega
  simp [Try.f8, ht8, h1, h2, h3, dC, pvC, placesP, vfill, Value.cells]
theorem new_bad {n : Int} (hn : n < 0 ∨ 256 < n) : S.f 8 [.d (.int .i64 n)] [] = some (.ret (.tup [.d .nilp, .d (.int .i64 1)]), []) := by
  refine SL_enter Try.func8 rfl ht8 rfl ?_
  by_cases h1 : n < 0
  · simp [Try.f8, ht8, h1]
  · have h2 : 256 < n := by omega
    simp [Try.f8, ht8, h1, h2]

section
variable {fs : List Nat} {inc : Nat}
theorem known_ok {k : Int} : S.f 32 [.ptr 0 0 0 0, .d (.int .i64 k)] (AO fs inc) = some (.ret (.d (.bool (decide (1 ≤ k ∧ k ≤ fs.length)))), AO fs inc) := by
  refine SL_enter Try.func32 rfl ht32 rfl ?_
  by_cases h : 1 ≤ k <;> simp [Try.f32, ht32, h]
theorem step_ok : S.f 12 [.ptr 0 0 0 0] (AO fs inc) = some (.ret (.d (.flt inc)), AO fs inc) := by
  refine SL_enter Try.func12 rfl ht12 rfl ?_
  simp [Try.f12, ht12]
theorem value_out {k : Int} (hk : ¬ (1 ≤ k ∧ k ≤ fs.length)) : S.f 10 [.ptr 0 0 0 0, .d (.int .i64 k)] (AO fs inc) = some (.ret (.d (.flt 0)), AO fs inc) := by
  refine SL_enter Try.func10 rfl ht10 rfl ?_
  simp [Try.f10, ht10, known_ok, hk]
theorem value_in {k : Nat} (hl : fs.length ≤ 256) (hk : k < fs.length) : S.f 10 [.ptr 0 0 0 0, .d (.int .i64 (k + 1))] (AO fs inc) = some (.ret (.d (.flt fs[k])), AO fs inc) := by
  refine SL_enter Try.func10 rfl ht10 rfl ?_
  have h1 : (1:Int) ≤ (k:Int) + 1 := by omega
  have h2 : (k:Int) + 1 ≤ fs.length := by omega
  have hw : IntKind.i64.wrap (k : Int) = k := wrap_i64 (by omega) (by omega)
  simp [Try.f10, ht10, known_ok, h1, h2, hw, hk]
theorem bump_out {k : Int} (hk : ¬ (1 ≤ k ∧ k ≤ fs.length)) : S.f 9 [.ptr 0 0 0 0, .d (.int .i64 k)] (AO fs inc) = some (.ret (.d (.int .i64 1)), AO fs inc) := by
  refine SL_enter Try.func9 rfl ht9 rfl ?_
  simp [Try.f9, ht9, pvV, known_ok, hk, must_false, catch_some]
theorem bump_ok {k x : Nat} (hl : fs.length ≤ 256) (hk : k < fs.length) (hx : FloatKind.f64.format.add fs[k] inc = some x) (hn : FloatKind.f64.format.order x x = some .eq) (hb : FloatKind.f64.format.order x 5958262307011166208 ≠ some .gt) :
    S.f 9 [.ptr 0 0 0 0, .d (.int .i64 (k + 1))] (AO fs inc) = some (.ret (.d (.int .i64 0)), AO (fs.set k x) inc) := by
  refine SL_enter Try.func9 rfl ht9 rfl ?_
  have h1 : (1:Int) ≤ (k:Int) + 1 := by omega
  have h2 : (k:Int) + 1 ≤ fs.length := by omega
  have hw : IntKind.i64.wrap (k : Int) = k := wrap_i64 (by omega) (by omega)
  simp [Try.f9, ht9, pvV, known_ok, h1, h2, must_true, catch_none, hw, hk, hx, hn, hb]
end
end Go.VL.Try
set_option maxRecDepth 10000
namespace Go.VL.Try
open Go Go.VL Go.Proofs
variable {fs gs : List Nat} {inc inc' : Nat}
def lowG (f : Nat) : Nat := (FloatKind.f64.format.mul f 3256102530588868608).getD 0
def LowOk (fs : List Nat) : Prop := ∀ f ∈ fs, FloatKind.f64.format.mul f 3256102530588868608 = some (lowG f)
def low (q : Nat) (ys : List Nat) : List Nat := ys.take q ++ (ys.drop q).map lowG
theorem low_step {q : Nat} {ys : List Nat} (h : q < ys.length) : low (q + 1) (ys.set q (lowG ys[q])) = low q ys := by
  apply List.ext_getElem?
  intro i
  unfold low
  rcases Nat.lt_trichotomy i q with h1 | h1 | h1
  · rw [List.getElem?_append_left (by simp; omega), List.getElem?_append_left (by simp; omega), List.getElem?_take, List.getElem?_take, if_pos (by omega), if_pos h1, List.getElem?_set_ne (by omega)]
  · subst h1
    rw [List.getElem?_append_left (by simp; omega), List.getElem?_append_right (by simp; omega), List.getElem?_take, if_pos (by omega), List.getElem?_set_self h]
    simp [Nat.min_eq_left (Nat.le_of_lt h), h]
  · rw [List.getElem?_append_right (by simp; omega), List.getElem?_append_right (by simp; omega), List.getElem?_map, List.getElem?_map, List.getElem?_drop, List.getElem?_drop]
    have e1 : q + 1 + (i - (List.take (q + 1) (ys.set q (lowG ys[q]))).length) = i := by simp; omega
    have e2 : q + (i - (List.take q ys).length) = i := by simp; omega
    rw [e1, e2, List.getElem?_set_ne (by omega)]
theorem low_end {ys : List Nat} : low ys.length ys = ys := by simp [low]
theorem LowOk.set {q : Nat} {ys : List Nat} (h : ∀ i, q ≤ i → ∀ f, ys[i]? = some f → FloatKind.f64.format.mul f 3256102530588868608 = some (lowG f)) (x : Nat) : ∀ i, q + 1 ≤ i → ∀ f, (ys.set q x)[i]? = some f → FloatKind.f64.format.mul f 3256102530588868608 = some (lowG f) := by
  intro i hi f hf
  rw [List.getElem?_set_ne (by omega)] at hf
  exact h i (by omega) f hf
theorem lower_loop : ∀ (k q : Nat) (ys : List Nat), ys.length ≤ 256 → q + k = ys.length → (∀ i, q ≤ i → ∀ f, ys[i]? = some f → FloatKind.f64.format.mul f 3256102530588868608 = some (lowG f)) →
    Lb Try.prog HT 33 2 (lpc Try.prog 33 0) ⟨mkE [(0, .ptr 0 0 0 0), (7, .d (.int .i64 ys.length)), (8, .d (.int .i64 q))], [], AO ys inc⟩ =
    some (.exit 0, ⟨upd (mkE [(0, .ptr 0 0 0 0), (7, .d (.int .i64 ys.length)), (8, .d (.int .i64 ys.length))]) 9 (.d (.bool false)), [], AO (low q ys) inc⟩) := by
  intro k
  induction k with
  | zero =>
    intro q ys hl hq hm
    have hq : q = ys.length := by omega
    subst hq
    rw [Lb_lp Try.func33]
    simp [lpd, loopsIn, Try.f33, low_end]
  | succ k ih =>
    intro q ys hl hq hm
    have hlt : q < ys.length := by omega
    rw [Lb_lp Try.func33]
    have hw : IntKind.i64.wrap ((q : Int) + 1) = q + 1 := wrap_i64 (by omega) (by omega)
    have hx := hm q (Nat.le_refl _) _ (List.getElem?_eq_getElem hlt)
    simp [lpd, loopsIn, Try.f33, ht33, L33, hlt, hw, hx]
    have := ih (q + 1) (ys.set q (lowG ys[q])) (by simpa using hl) (by simp; omega) (LowOk.set hm _)
    rw [low_step hlt] at this
    simp [AO, low] at this ⊢
    exact this
theorem lower_ok (hl : fs.length ≤ 256) (hm : ∀ f ∈ fs, FloatKind.f64.format.mul f 3256102530588868608 = some (lowG f)) (hi : FloatKind.f64.format.mul inc 3256102530588868608 = some inc') :
    S.f 33 [.ptr 0 0 0 0] (AO fs inc) = some (.ret (.tup []), AO (fs.map lowG) inc') := by
  refine SL_enter Try.func33 rfl ht33 rfl ?_
  simp [Try.f33, ht33]
  have := lower_loop (inc := inc) fs.length 0 fs hl (by simp) (fun i _ f hf => hm f (List.mem_of_getElem? hf))
  simp only [Int.cast_ofNat_Int] at this
  rw [this]
  simp [hi, low]
end Go.VL.Try
set_option maxRecDepth 10000
namespace Go.VL.Try
open Go Go.VL Go.Proofs
variable {fs : List Nat} {inc : Nat} {nots : List Bool}
/-- One place of the way: the best so far (-1: none). -/
def topStep (fs : List Nat) (nots : List Bool) (best : Int) (q : Nat) : Int :=
  if nots.getD q false = true then best else if best < 0 ∨ 0 < wcmp (fs.getD q 0) (fs.getD best.toNat 0) then q else best
def topTo (fs : List Nat) (nots : List Bool) : Nat → Int
  | 0 => -1
  | q + 1 => topStep fs nots (topTo fs nots q) q
theorem topTo_lt : ∀ q, -1 ≤ topTo fs nots q ∧ topTo fs nots q < q
  | 0 => by simp [topTo]
  | q + 1 => by
    have := topTo_lt q
    simp only [topTo, topStep]
    split
    · omega
    · split <;> omega
theorem top_loop (hl : fs.length ≤ 256) (hf : ∀ f ∈ fs, f < 18446744073709551616) : ∀ (k q : Nat), q + k = fs.length →
    Lb Try.prog HT 11 2 (lpc Try.prog 11 0) ⟨mkE [(0, .ptr 0 0 0 0), (1, .d (.fz (nots.map fun b => [.bool b]))), (6, .d (.int .i64 (topTo fs nots q))), (12, .sl 1 0 0 fs.length), (13, .d (.int .i64 fs.length)), (14, .d (.int .i64 q))], [], AO fs inc⟩ =
    some (.exit 0, ⟨upd (mkE [(0, .ptr 0 0 0 0), (1, .d (.fz (nots.map fun b => [.bool b]))), (6, .d (.int .i64 (topTo fs nots fs.length))), (12, .sl 1 0 0 fs.length), (13, .d (.int .i64 fs.length)), (14, .d (.int .i64 fs.length))]) 15 (.d (.bool false)), [], AO fs inc⟩) := by
  intro k
  induction k with
  | zero =>
    intro q hq
    have hq : q = fs.length := by omega
    subst hq
    rw [Lb_lp Try.func11]
    simp [lpd, loopsIn, Try.f11]
  | succ k ih =>
    intro q hq
    have hlt : q < fs.length := by omega
    have hw : IntKind.i64.wrap ((q : Int) + 1) = q + 1 := wrap_i64 (by omega) (by omega)
    have hb := topTo_lt (fs := fs) (nots := nots) q
    have hnext := show topTo fs nots (q + 1) = topStep fs nots (topTo fs nots q) q from rfl
    have ih := ih (q + 1) (by omega)
    rw [hnext] at ih
    generalize hbest : topTo fs nots q = best at *
    have hff : fs[q] < 18446744073709551616 := hf _ (List.getElem_mem hlt)
    have hq0 : ¬ ((q : Int) < 0) := by omega
    rw [Lb_lp Try.func11]
    by_cases hneg : best < 0
    · by_cases hlq : q < nots.length
      · cases hv : nots[q] with
        | true =>
          simp [lpd, loopsIn, Try.f11, ht11, L11, hlt, hw, hneg, hlq, hv]
          simp [AO, topStep, hneg, hlq, hv] at ih ⊢
          exact ih
        | false =>
          simp [lpd, loopsIn, Try.f11, ht11, L11, hlt, hw, hneg, hlq, hv]
          simp [AO, topStep, hneg, hlq, hv] at ih ⊢
          exact ih
      · simp [lpd, loopsIn, Try.f11, ht11, L11, hlt, hw, hneg, hlq]
        simp [AO, topStep, hneg, hlq] at ih ⊢
        exact ih
    · have hb0 : 0 ≤ best := by omega
      have hbn : best.toNat < fs.length := by omega
      have hbl : best < fs.length := by omega
      have hgf : fs[best.toNat] < 18446744073709551616 := hf _ (List.getElem_mem hbn)
      have hcmp := compare_ok hff hgf
      by_cases hc : 0 < wcmp fs[q] fs[best.toNat]
      · by_cases hlq : q < nots.length
        · cases hv : nots[q] with
          | true =>
            simp [lpd, loopsIn, Try.f11, ht11, L11, hlt, hw, hneg, hlq, hv]
            simp [AO, topStep, hneg, hlq, hv] at ih ⊢
            exact ih
          | false =>
            simp [lpd, loopsIn, Try.f11, ht11, L11, hlt, hw, hneg, hlq, hv, hb0, hbn, hbl, hcmp, hc]
            simp [AO, topStep, hneg, hlq, hv, hlt, hbn, hc] at ih ⊢
            exact ih
        · simp [lpd, loopsIn, Try.f11, ht11, L11, hlt, hw, hneg, hlq, hb0, hbn, hbl, hcmp, hc]
          simp [AO, topStep, hneg, hlq, hlt, hbn, hc] at ih ⊢
          exact ih
      · by_cases hlq : q < nots.length
        · cases hv : nots[q] with
          | true =>
            simp [lpd, loopsIn, Try.f11, ht11, L11, hlt, hw, hneg, hlq, hv]
            simp [AO, topStep, hneg, hlq, hv] at ih ⊢
            exact ih
          | false =>
            simp [lpd, loopsIn, Try.f11, ht11, L11, hlt, hw, hneg, hlq, hv, hb0, hbn, hbl, hcmp, hc]
            simp [AO, topStep, hneg, hlq, hv, hlt, hbn, hc] at ih ⊢
            exact ih
        · simp [lpd, loopsIn, Try.f11, ht11, L11, hlt, hw, hneg, hlq, hb0, hbn, hbl, hcmp, hc]
          simp [AO, topStep, hneg, hlq, hlt, hbn, hc] at ih ⊢
          exact ih
theorem top_ok (hl : fs.length ≤ 256) (hf : ∀ f ∈ fs, f < 18446744073709551616) : S.f 11 [.ptr 0 0 0 0, .d (.fz (nots.map fun b => [.bool b]))] (AO fs inc) =
    some (.ret (.tup [.d (.int .i64 (topTo fs nots fs.length + 1)), .d (.bool (decide (0 ≤ topTo fs nots fs.length)))]), AO fs inc) := by
  refine SL_enter Try.func11 rfl ht11 rfl ?_
  have hb := topTo_lt (fs := fs) (nots := nots) fs.length
  have hw : IntKind.i64.wrap (topTo fs nots fs.length + 1) = topTo fs nots fs.length + 1 := wrap_i64 (by omega) (by omega)
  simp [Try.f11, ht11]
  have := top_loop (inc := inc) (nots := nots) hl hf fs.length 0 (by simp)
  simp [AO, topTo] at this
  rw [this]
  simp [hw]
end Go.VL.Try
namespace Go.VL.Try
open Go Go.VL Go.Proofs
theorem known_run : (evn Try.prog HT 50).f 7 [] [] = some (.ret (.d (.bool true)), []) := by kernel_rfl
theorem known_true : S.f 7 [] [] = some (.ret (.d (.bool true)), []) := SL_run 50 known_run
end Go.VL.Try
set_option maxRecDepth 10000
namespace Go.VL.Try
open Go Go.VL Go.Proofs

theorem hok : HOK Try.prog HT := ⟨mixed, fns_hok funcs_size fns_ok, fun g e he args x σ m h => by
  have : (g = 43 ∧ e = extBits) ∨ (g = 13 ∧ e = extFrom) := by
    have : extOf g = some e := he
    unfold extOf at this
    simp only [List.lookup_cons, List.lookup_nil] at this
    split at this
    · rename_i h; simp at this h; exact .inr ⟨h, this.symm⟩
    · split at this
      · rename_i h; simp at this h; exact .inl ⟨h, this.symm⟩
      · simp at this
  have val : ∀ {g : Nat} {fn : Func} {k : Array Value → Sem Value} {x : PV} (args : List PV), Try.prog.funcs[g]? = some fn → fn.body = none → ¬ fn.name = "runtime.NumGoroutine" → (Extern.findNext fn).isNone = true → Extern.find fn = some k →
      (∀ (B : Base) (β : Bt) (w : World) (vals : List Value), VRelL β σ w (Zc B β σ w) args vals → ∃ v, (k vals.toArray).run Try.prog w = .ok v w ∧ VRel β σ w (Zc B β σ w) x v) → PCalls Try.prog m g args σ (Ex (.ret x, σ)) := by
    intro g fn k x args hf hb hn h1 h2 hk B β w vals _ hw hv
    obtain ⟨v, h3, h4⟩ := hk B β w vals hv
    refine .inr ⟨v, w, ?_, .ret x, σ, β, rfl, Mv.refl hw, h4⟩
    have h1' : Extern.findNext fn = none := by simpa using h1
    unfold callFunc
    simp only [Sem.run_bind]
    simp [hf, h1', h2, hb, hn, h3]
  rcases this with ⟨rfl, rfl⟩ | ⟨rfl, rfl⟩
  · unfold extBits at h
    split at h
    · rename_i b
      cases h
      refine val _ Try.func43 (by kernel_rfl) (by decide) (by kernel_rfl) (by kernel_rfl : Extern.find Try.f43 = some Extern.MathFloatBits.float64bits) fun B β w vals hv => ?_
      match vals, hv with
      | [v], hv =>
        have h0 := hv.2 0 _ v rfl rfl
        cases h0 with
        | d _ _ hd => cases hd; exact ⟨.int .u64 b, by show Sem.run _ (pure (Value.int .u64 b)) _ = _; simp, .d _ _ (.int _ _)⟩
      | [], hv => exact absurd hv.1 (by simp)
      | _ :: _ :: _, hv => exact absurd hv.1 (by simp)
    · simp at h
  · unfold extFrom at h
    split at h
    · rename_i b
      cases h
      refine val _ Try.func13 (by kernel_rfl) (by decide) (by kernel_rfl) (by kernel_rfl : Extern.find Try.f13 = some Extern.MathFloatBits.float64frombits) fun B β w vals hv => ?_
      match vals, hv with
      | [v], hv =>
        have h0 := hv.2 0 _ v rfl rfl
        cases h0 with
        | d _ _ hd => cases hd; exact ⟨.float .f64 b.toNat, by show Sem.run _ (pure (Value.float .f64 b.toNat)) _ = _; simp, .d _ _ (.flt _)⟩
      | [], hv => exact absurd hv.1 (by simp)
      | _ :: _ :: _, hv => exact absurd hv.1 (by simp)
    · simp at h⟩
end Go.VL.Try
namespace Go.VL
open Go
theorem intsOf {k : IntKind} {p : Int → Prop} : ∀ (l : List (List VL.D)), (∀ c ∈ l, ∃ x, c = [VL.D.int k x] ∧ p x) → ∃ xs : List Int, l = xs.map (fun x => [VL.D.int k x]) ∧ ∀ x ∈ xs, p x
  | [], _ => ⟨[], rfl, by simp⟩
  | c :: l, h => by
    obtain ⟨x, rfl, hx⟩ := h c (by simp)
    obtain ⟨xs, rfl, hxs⟩ := intsOf l fun c hc => h c (by simp [hc])
    exact ⟨x :: xs, rfl, by simpa using ⟨hx, hxs⟩⟩
theorem boolsOf : ∀ (l : List (List VL.D)), (∀ c ∈ l, ∃ b, c = [VL.D.bool b]) → ∃ bs : List Bool, l = bs.map (fun b => [VL.D.bool b])
  | [], _ => ⟨[], rfl⟩
  | c :: l, h => by
    obtain ⟨x, rfl⟩ := h c (by simp)
    obtain ⟨xs, rfl⟩ := boolsOf l fun c hc => h c (by simp [hc])
    exact ⟨x :: xs, rfl⟩
theorem natsOf {k : IntKind} {m : Nat} (l : List (List VL.D)) (h : ∀ c ∈ l, ∃ x, c = [VL.D.int k x] ∧ 0 ≤ x ∧ x < (m : Int)) : ∃ xs : List Nat, l = xs.map (fun x : Nat => [VL.D.int k x]) ∧ ∀ x ∈ xs, x < m := by
  obtain ⟨xs, rfl, hx⟩ := intsOf (p := fun x => 0 ≤ x ∧ x < (m : Int)) l h
  refine ⟨xs.map Int.toNat, ?_, fun y hy => ?_⟩
  · rw [List.map_map]
    refine List.map_congr_left fun x hm => ?_
    have := (hx x hm).1
    simp [Int.toNat_of_nonneg this]
  · obtain ⟨x, hm, rfl⟩ := List.mem_map.1 hy
    have := hx x hm
    omega
end Go.VL
