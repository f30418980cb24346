/- Floats of 64 bits: their order is that of whole numbers. -/
import Derived.Test.YtbgjkpokmlkgiaaVa
import Derived.Test.YtbgjkpokmlkgiaaB
namespace Go.VL
open Go Ieee

def fB : Nat := 4503599627370496
def fS : Nat := 9223372036854775808
def fI : Nat := 9218868437227405312
/-- A rung's magnitude, in least units. -/
def fmag (r : Nat) : Nat := if r < fB then r else (fB + r % fB) * 2 ^ (r / fB - 1)
def fneg (x : Nat) : Bool := x / fS % 2 == 1
def frung (x : Nat) : Nat := x % fS
/-- A float's place among whole numbers. -/
def fval (x : Nat) : Int := if fneg x then -(fmag (frung x) : Int) else fmag (frung x)
/-- It is no NaN. -/
def fok (x : Nat) : Prop := frung x ≤ fI
instance (x : Nat) : Decidable (fok x) := by unfold fok; infer_instance

theorem fmag_lt {r r' : Nat} (h : r < r') : fmag r < fmag r' := by
  unfold fmag
  have hB : 0 < fB := by decide
  have e1 := Nat.div_add_mod r fB
  have e2 := Nat.div_add_mod r' fB
  have m1 := Nat.mod_lt r hB
  have m2 := Nat.mod_lt r' hB
  have pos : ∀ k, 0 < 2 ^ k := fun k => Nat.pow_pos (by decide)
  by_cases h1 : r < fB
  · rw [if_pos h1]
    by_cases h2 : r' < fB
    · rw [if_pos h2]; exact h
    · rw [if_neg h2]
      calc r < fB := h1
        _ ≤ fB + r' % fB := Nat.le_add_right _ _
        _ ≤ (fB + r' % fB) * 2 ^ (r' / fB - 1) := Nat.le_mul_of_pos_right _ (pos _)
  · have h2 : ¬ r' < fB := by omega
    rw [if_neg h1, if_neg h2]
    have d1 : 1 ≤ r / fB := (Nat.le_div_iff_mul_le hB).2 (by omega)
    have dle : r / fB ≤ r' / fB := Nat.div_le_div_right (Nat.le_of_lt h)
    rcases Nat.lt_or_ge (r / fB) (r' / fB) with d | d
    · calc (fB + r % fB) * 2 ^ (r / fB - 1) < (fB + fB) * 2 ^ (r / fB - 1) := Nat.mul_lt_mul_of_pos_right (by omega) (pos _)
        _ = fB * 2 ^ (r / fB) := by
          have : r / fB = (r / fB - 1) + 1 := by omega
          rw [this, Nat.pow_succ, Nat.add_sub_cancel, ← Nat.two_mul]
          rw [Nat.mul_comm 2 fB, Nat.mul_assoc, Nat.mul_comm 2 (2 ^ _)]
        _ ≤ fB * 2 ^ (r' / fB - 1) := Nat.mul_le_mul_left _ (Nat.pow_le_pow_right (by decide) (by omega))
        _ ≤ (fB + r' % fB) * 2 ^ (r' / fB - 1) := Nat.mul_le_mul_right _ (Nat.le_add_right _ _)
    · have de : r / fB = r' / fB := by omega
      rw [de] at e1 ⊢
      exact Nat.mul_lt_mul_of_pos_right (by omega) (pos _)
theorem fmag_inj {r r' : Nat} (h : fmag r = fmag r') : r = r' := by
  rcases Nat.lt_trichotomy r r' with h1 | h1 | h1
  · have := fmag_lt h1; omega
  · exact h1
  · have := fmag_lt h1; omega

def cmpZ (a b : Int) : Ordering := if a < b then .lt else if a = b then .eq else .gt
theorem compare_cmpZ (a b : Int) : compare a b = cmpZ a b := by
  show compareOfLessAndEq a b = _
  unfold compareOfLessAndEq cmpZ
  rfl
theorem cmpZ_mul {a b c : Int} (hc : 0 < c) : cmpZ (a * c) (b * c) = cmpZ a b := by
  unfold cmpZ
  have h1 : a * c < b * c ↔ a < b := ⟨fun h => Int.lt_of_mul_lt_mul_right h (Int.le_of_lt hc), fun h => Int.mul_lt_mul_of_pos_right h hc⟩
  have h2 : a * c = b * c ↔ a = b := ⟨fun h => Int.eq_of_mul_eq_mul_right (Int.ne_of_gt hc) h, fun h => by rw [h]⟩
  simp only [h1, h2]

/-- What a float is read as. -/
theorem read_num {x : Nat} (h : frung x < fI) : ∃ m e, double.read x = .number (fneg x) m (double.leastPlace + (e : Nat)) ∧ m * 2 ^ e = fmag (frung x) := by
  have hw : double.signWeight = fS := by decide
  have hb : double.binade = fB := by decide
  have hi : double.infRung = fI := by decide
  unfold Format.read
  simp only [hw, hb, hi]
  unfold fmag
  by_cases h1 : frung x < fB
  · refine ⟨frung x, 0, ?_, by simp [h1]⟩
    have h1' : x % fS < fB := h1
    rw [if_pos h1']
    simp [fneg, frung]
  · refine ⟨fB + frung x % fB, frung x / fB - 1, ?_, by rw [if_neg h1]⟩
    have h1' : ¬ x % fS < fB := h1
    have h2' : x % fS < fI := h
    rw [if_neg h1', if_pos h2']
    simp [fneg, frung]
theorem read_inf {x : Nat} (h : frung x = fI) : double.read x = .infinity (fneg x) := by
  have hw : double.signWeight = fS := by decide
  have hb : double.binade = fB := by decide
  have hi : double.infRung = fI := by decide
  unfold Format.read
  simp only [hw, hb, hi]
  have h' : x % fS = fI := h
  rw [if_neg (by rw [h']; decide), if_neg (by rw [h']; decide), if_pos h']
  rfl
theorem read_nan {x : Nat} (h : ¬ fok x) : ∃ s f, double.read x = .nan s f := by
  have hw : double.signWeight = fS := by decide
  have hb : double.binade = fB := by decide
  have hi : double.infRung = fI := by decide
  unfold Format.read
  simp only [hw, hb, hi]
  have h' : ¬ x % fS ≤ fI := h
  have : fB < fI := by decide
  rw [if_neg (by omega), if_neg (by omega), if_neg (by omega)]
  exact ⟨_, _, rfl⟩

theorem signed_mul {s : Bool} {m up b : Nat} : signed s m up * (2 ^ b : Nat) = signed s m (up + b) := by
  unfold signed
  simp only [Nat.shiftLeft_eq, Nat.pow_add]
  cases s <;> simp [Int.mul_assoc, Int.neg_mul]
theorem order_num {s t : Bool} {m n e f : Nat} : Datum.order (.number s m (double.leastPlace + (e : Nat))) (.number t n (double.leastPlace + (f : Nat))) = some (cmpZ (signed s m e) (signed t n f)) := by
  unfold Datum.order
  simp only
  rw [compare_cmpZ]
  have hmin : min (double.leastPlace + (e : Int)) (double.leastPlace + (f : Int)) = double.leastPlace + ((min e f : Nat) : Int) := by omega
  rw [hmin]
  have e1 : (double.leastPlace + (e : Int) - (double.leastPlace + ((min e f : Nat) : Int))).toNat = e - min e f := by omega
  have e2 : (double.leastPlace + (f : Int) - (double.leastPlace + ((min e f : Nat) : Int))).toNat = f - min e f := by omega
  rw [e1, e2, ← cmpZ_mul (c := ((2 ^ min e f : Nat) : Int)) (by have := Nat.pow_pos (n := min e f) (show 0 < 2 by decide); omega), signed_mul, signed_mul]
  congr 3 <;> omega

theorem signed_fval {x m e : Nat} (h : m * 2 ^ e = fmag (frung x)) : signed (fneg x) m e = fval x := by
  unfold signed fval
  rw [Nat.shiftLeft_eq, h]

/-- Of floats that are no NaNs the order is that of their places. -/
theorem order_fval {x y : Nat} (hx : fok x) (hy : fok y) : FloatKind.f64.format.order x y = some (cmpZ (fval x) (fval y)) := by
  show Datum.order (double.read x) (double.read y) = _
  have inf_gt : ∀ r, r < fI → (fmag r : Int) < fmag fI := fun r h => by have := fmag_lt h; omega
  have nonneg : ∀ z, fok z → frung z < fI → -(fmag fI : Int) < fval z ∧ fval z < fmag fI := by
    intro z hz h
    have := inf_gt _ h
    unfold fval
    split <;> omega
  unfold fok at hx hy
  rcases Nat.lt_or_ge (frung x) fI with h1 | h1
  · obtain ⟨m, e, hr, hm⟩ := read_num h1
    rcases Nat.lt_or_ge (frung y) fI with h2 | h2
    · obtain ⟨n, f, hr', hn⟩ := read_num h2
      rw [hr, hr', order_num, signed_fval hm, signed_fval hn]
    · have h2 : frung y = fI := by omega
      have hn := nonneg x hx h1
      rw [hr, read_inf h2]
      unfold Datum.order
      simp only
      have hv : fval y = if fneg y then -(fmag fI : Int) else fmag fI := by unfold fval; rw [h2]
      rw [hv]
      unfold cmpZ
      generalize fmag fI = M at *
      generalize fval x = a at *
      cases fneg y
      · simp only [Bool.false_eq_true, if_false]; rw [if_pos (by omega)]
      · simp only [if_true]; rw [if_neg (by omega), if_neg (by omega)]
  · have h1 : frung x = fI := by omega
    have hv : fval x = if fneg x then -(fmag fI : Int) else fmag fI := by unfold fval; rw [h1]
    rcases Nat.lt_or_ge (frung y) fI with h2 | h2
    · obtain ⟨n, f, hr', hn'⟩ := read_num h2
      have hn := nonneg y hy h2
      rw [hr', read_inf h1]
      unfold Datum.order
      simp only
      rw [hv]
      unfold cmpZ
      generalize fmag fI = M at *
      generalize fval y = a at *
      cases fneg x
      · simp only [Bool.false_eq_true, if_false]; rw [if_neg (by omega), if_neg (by omega)]
      · simp only [if_true]; rw [if_pos (by omega)]
    · have h2 : frung y = fI := by omega
      have hv' : fval y = if fneg y then -(fmag fI : Int) else fmag fI := by unfold fval; rw [h2]
      rw [read_inf h1, read_inf h2]
      unfold Datum.order
      simp only
      rw [hv, hv']
      have : (0 : Int) < fmag fI := by have := fmag_lt (show 0 < fI by decide); omega
      unfold cmpZ
      generalize fmag fI = M at *
      cases fneg x <;> cases fneg y <;> simp only [Bool.false_eq_true, if_false, if_true, Int.lt_irrefl]
      · rfl
      · rw [if_neg (by omega), if_neg (by omega)]; rfl
      · rw [if_pos (by omega)]; rfl
      · rfl
theorem order_nan {x y : Nat} (h : ¬ fok x ∨ ¬ fok y) : FloatKind.f64.format.order x y = none := by
  show Datum.order (double.read x) (double.read y) = _
  rcases h with h | h
  · obtain ⟨s, f, hr⟩ := read_nan h
    rw [hr]; rfl
  · obtain ⟨s, f, hr⟩ := read_nan h
    rw [hr]; cases double.read x <;> rfl
end Go.VL
set_option maxRecDepth 10000
namespace Go.VL.Try
open Go Go.VL Go.Proofs

theorem order_pos {a b : Nat} (ha : a ≤ fI) (hb : b ≤ fI) : FloatKind.f64.format.order a b = some (if a < b then .lt else if a = b then .eq else .gt) := by
  have e : ∀ x, x ≤ fI → frung x = x ∧ fneg x = false := by
    intro x hx
    unfold fI at hx
    constructor
    · unfold frung fS; omega
    · unfold fneg fS; rw [Nat.div_eq_of_lt (by omega)]; rfl
  obtain ⟨a1, a2⟩ := e a ha
  obtain ⟨b1, b2⟩ := e b hb
  rw [order_fval (by unfold fok; omega) (by unfold fok; omega)]
  unfold fval cmpZ
  rw [a1, a2, b1, b2]
  simp only [Bool.false_eq_true, if_false]
  rcases Nat.lt_trichotomy a b with h | h | h
  · have := fmag_lt h
    rw [if_pos (by omega), if_pos h]
  · subst h; simp
  · have := fmag_lt h
    rw [if_neg (by omega), if_neg (by omega), if_neg (by omega), if_neg (by omega)]
theorem wcmp_pos {a b : Nat} (ha : a ≤ fI) (hb : b ≤ fI) : 0 < wcmp a b ↔ b < a := by
  have ha' : a < 9223372036854775808 := by unfold fI at ha; omega
  have hb' : b < 9223372036854775808 := by unfold fI at hb; omega
  have e1 : plc a = 0 := by unfold plc; rw [order_pos ha ha]; simp
  have e2 : plc b = 0 := by unfold plc; rw [order_pos hb hb]; simp
  have e3 : sgn a = 1 := by unfold sgn; rw [if_neg (by omega)]
  have e4 : sgn b = 1 := by unfold sgn; rw [if_neg (by omega)]
  unfold wcmp
  rw [e1, e2, e3, e4, order_pos ha hb]
  simp only [ne_eq, not_true_eq_false, or_self, if_false]
  rcases Nat.lt_trichotomy a b with h | h | h
  · simp [h]; omega
  · subst h; simp [cmpI]
  · simp [Nat.lt_asymm h, Nat.ne_of_gt h, h]

def fl (n : Nat) : Nat := FloatKind.f64.nearest (n : Int)
def flGood (n : Nat) : Bool := decide (fl n ≤ 5958262307011166208) && decide (fl n < fl (n + 1)) && (FloatKind.f64.format.add (fl n) 4607182418800017408 == some (fl (n + 1)))
theorem fl_good0 : (List.range 202).all flGood = true := by kernel_rfl
theorem fl_good {n : Nat} (h : n < 202) : fl n ≤ 5958262307011166208 ∧ fl n < fl (n + 1) ∧ FloatKind.f64.format.add (fl n) 4607182418800017408 = some (fl (n + 1)) := by
  have := List.all_eq_true.1 fl_good0 n (List.mem_range.2 h)
  unfold flGood at this
  simp only [Bool.and_eq_true, decide_eq_true_eq, beq_iff_eq] at this
  exact ⟨this.1.1, this.1.2, this.2⟩
theorem fl_mono {a : Nat} : ∀ (d : Nat), a + d < 202 → fl a ≤ fl (a + d) ∧ (0 < d → fl a < fl (a + d))
  | 0, _ => ⟨Nat.le_refl _, by omega⟩
  | d + 1, h => by
    have h1 := (fl_mono (a := a) d (by omega)).1
    have h2 := (fl_good (n := a + d) (by omega)).2.1
    have e : a + d + 1 = a + (d + 1) := by omega
    rw [e] at h2
    exact ⟨by omega, by omega⟩
theorem fl_lt {a b : Nat} (ha : a < 202) (hb : b < 202) : fl a < fl b ↔ a < b := by
  constructor
  · intro h
    rcases Nat.lt_or_ge a b with h1 | h1
    · exact h1
    · have := (fl_mono (a := b) (a - b) (by omega)).1
      rw [show b + (a - b) = a by omega] at this; omega
  · intro h
    have := (fl_mono (a := a) (b - a) (by omega)).2 (by omega)
    rwa [show a + (b - a) = b by omega] at this

/-- Objects: an Act, and eight numbers. -/
abbrev CO (ns : List Nat) : St := [.box true 0 [.sl 2 0 0 ns.length, .d (.flt 4607182418800017408)], .box true 0 (ns.map fun n : Nat => .d (.int .i64 n)), .arr true 0 1 ((ns.map fl).map fun v => [.flt v])]

theorem counts_loop (l : List Nat) (hl : l.length ≤ 200) (hb : ∀ x ∈ l, x < 256) : ∀ (k i : Nat) (ns : List Nat), i + k = l.length → ns.length = 8 → (∀ n ∈ ns, n ≤ i) →
    ∃ ns', ns'.length = 8 ∧ (∀ n ∈ ns', n ≤ 200) ∧ ∃ env, env 3 = .ptr 0 0 0 0 ∧ env 5 = .ptr 1 0 0 0 ∧
    Lb Try.prog HT 3 0 (lpc Try.prog 3 0) ⟨mkE [(0, .d (.fz (l.map fun b : Nat => [.int .u8 b]))), (3, .ptr 0 0 0 0), (5, .ptr 1 0 0 0), (6, .d (.int .i64 i))], [], CO ns⟩ = some (.exit 0, ⟨env, [], CO ns'⟩) := by
  intro k
  induction k with
  | zero =>
    intro i ns hi h8 hn
    refine ⟨ns, h8, fun n h => by have := hn n h; omega, ?_⟩
    have hi : i = l.length := by omega
    subst hi
    refine ⟨_, ?_, ?_, by rw [Lb_lp Try.func3]; simp [lpd, loopsIn, Try.f3]; rfl⟩ <;> simp
  | succ k ih =>
    intro i ns hi h8 hn
    have hlt : i < l.length := by omega
    have hw : IntKind.i64.wrap ((i : Int) + 1) = i + 1 := wrap_i64 (by omega) (by omega)
    obtain ⟨x, hx⟩ : ∃ x, x = l[i] := ⟨_, rfl⟩
    have hxb : x < 256 := by rw [hx]; exact hb _ (List.getElem_mem hlt)
    obtain ⟨y, hy⟩ : ∃ y : Nat, (x : Int) % 8 = y := ⟨x % 8, by omega⟩
    have hy8 : y < ns.length := by omega
    have hy0 : (y : Int) < 8 := by omega
    have hyt : (x : Int).tmod 8 = y := by rw [← hy]; exact Int.tmod_eq_emod_of_nonneg (by omega)
    have hnx := hn _ (List.getElem_mem hy8)
    obtain ⟨g1, g2, g3⟩ := fl_good (n := ns[y]) (by omega)
    obtain ⟨g1', g2', -⟩ := fl_good (n := ns[y] + 1) (by omega)
    have hbump := bump_ok (fs := ns.map fl) (inc := 4607182418800017408) (k := y) (x := fl (ns[y] + 1)) (by simp; omega) (by simpa using hy8) (by simpa using g3)
      (by rw [order_pos (by unfold fI; omega) (by unfold fI; omega)]; simp) (by
        rw [order_pos (by unfold fI; omega) (by unfold fI; omega)]
        rcases Nat.lt_or_ge (fl (ns[y] + 1)) 5958262307011166208 with h | h
        · simp [h]
        · have : fl (ns[y] + 1) = 5958262307011166208 := by omega
          simp [this])
    obtain ⟨ns', h1, h2, h3⟩ := ih (i + 1) (ns.set y (ns[y] + 1)) (by omega) (by simpa using h8) (fun n hm => by
      rcases List.mem_or_eq_of_mem_set hm with h | h
      · have := hn n h; omega
      · rw [h]; omega)
    refine ⟨ns', h1, h2, ?_⟩
    obtain ⟨env, e3, e5, h3⟩ := h3
    refine ⟨env, e3, e5, ?_⟩
    rw [Lb_lp Try.func3]
    have hw2 : IntKind.i64.wrap (y : Int) = y := wrap_i64 (by omega) (by omega)
    have hw3 : IntKind.i64.wrap ((y : Int) + 1) = y + 1 := wrap_i64 (by omega) (by omega)
    have hw4 : IntKind.i64.wrap ((ns[y] : Int) + 1) = ns[y] + 1 := wrap_i64 (by omega) (by omega)
    have hw5 : IntKind.u8.wrap (y : Int) = y := by simp only [IntKind.wrap, IntKind.bits, IntKind.signed]; simp; omega
    simp [AO] at hbump
    have hset : (ns.map fun n : Nat => PV.d (VL.D.int .i64 n)).set y (.d (.int .i64 ((ns[y] : Int) + 1))) = (ns.set y (ns[y] + 1)).map fun n : Nat => .d (.int .i64 n) := by rw [List.map_set]; rfl
    have hset2 : (ns.map ((fun v => [VL.D.flt v]) ∘ fl)).set y [VL.D.flt (fl (ns[y] + 1))] = (ns.set y (ns[y] + 1)).map ((fun v => [VL.D.flt v]) ∘ fl) := by rw [List.map_set]; rfl
    simp [-List.map_set, hset, hset2, CO, lpd, loopsIn, Try.f3, ht3, L3, hlt, hw, ← hx, hy, hyt, hbump, hw2, hw3, hw4, hw5, hy8, hy0, Nat.add_one_le_iff]
    simp [-List.map_set, hset, CO] at h3
    exact h3
end Go.VL.Try
set_option maxRecDepth 10000
namespace Go.VL.Try
open Go Go.VL Go.Proofs
/-- The first of the greatest, of the first q. -/
def bst (ns : List Nat) : Nat → Nat
  | 0 => 0
  | q + 1 => if ns.getD (bst ns q) 0 < ns.getD q 0 then q else bst ns q
theorem bst_le {ns : List Nat} : ∀ q, bst ns q = 0 ∨ bst ns q < q
  | 0 => .inl rfl
  | q + 1 => by
    rcases bst_le (ns := ns) q with h | h <;> (simp only [bst]; split <;> omega)
theorem top_bst {ns : List Nat} (hn : ∀ n ∈ ns, n ≤ 200) : ∀ q, q < ns.length → topTo (ns.map fl) [] (q + 1) = (bst ns (q + 1) : Nat)
  | 0, h => by
    have e : bst ns 1 = 0 := by simp [bst]
    rw [e]
    simp [topTo, topStep]
  | q + 1, h => by
    have ih := top_bst hn q (by omega)
    have e1 : topTo (ns.map fl) [] (q + 1 + 1) = topStep (ns.map fl) [] (topTo (ns.map fl) [] (q + 1)) (q + 1) := rfl
    have e2 : bst ns (q + 1 + 1) = if ns.getD (bst ns (q + 1)) 0 < ns.getD (q + 1) 0 then q + 1 else bst ns (q + 1) := rfl
    have hb : bst ns (q + 1) < ns.length := by rcases bst_le (ns := ns) (q + 1) with h | h <;> omega
    rw [e1, ih, e2]
    have g1 := hn _ (List.getElem_mem h)
    have g2 := hn _ (List.getElem_mem hb)
    have f1 := (fl_good (n := ns[q + 1]) (by omega)).1
    have f2 := (fl_good (n := ns[bst ns (q + 1)]) (by omega)).1
    have hc : 0 < wcmp (fl ns[q + 1]) (fl ns[bst ns (q + 1)]) ↔ ns[bst ns (q + 1)] < ns[q + 1] := by
      rw [wcmp_pos (by unfold fI; omega) (by unfold fI; omega), fl_lt (by omega) (by omega)]
    unfold topStep
    by_cases hc2 : ns[bst ns (q + 1)] < ns[q + 1] <;> simp [h, hb, hc, hc2]
    intro h; omega

theorem best_loop {ns : List Nat} (h8 : ns.length = 8) (hn : ∀ n ∈ ns, n ≤ 200) : ∀ (k q : Nat), q + k = 8 → 
    ∃ env, env 3 = .ptr 0 0 0 0 ∧ env 8 = .d (.int .i64 (bst ns 8)) ∧
    Lb Try.prog HT 3 0 (lpc Try.prog 3 1) ⟨mkE [(3, .ptr 0 0 0 0), (5, .ptr 1 0 0 0), (8, .d (.int .i64 (bst ns q))), (9, .d (.int .i64 q))], [], CO ns⟩ = some (.exit 2, ⟨env, [], CO ns⟩) := by
  intro k
  induction k with
  | zero =>
    intro q hq
    have hq : q = 8 := by omega
    subst hq
    refine ⟨_, ?_, ?_, by rw [Lb_lp Try.func3]; simp [lpd, loopsIn, Try.f3]; rfl⟩ <;> simp
  | succ k ih =>
    intro q hq
    have hlt : q < ns.length := by omega
    have hw : IntKind.i64.wrap ((q : Int) + 1) = q + 1 := wrap_i64 (by omega) (by omega)
    have hb : bst ns q < ns.length := by rcases bst_le (ns := ns) q with h | h <;> omega
    obtain ⟨b, hbb⟩ : ∃ b, b = bst ns q := ⟨_, rfl⟩
    obtain ⟨env, e3, e8, ih⟩ := ih (q + 1) (by omega)
    refine ⟨env, e3, e8, ?_⟩
    rw [Lb_lp Try.func3]
    have h8' : (q : Int) < 8 := by omega
    have h9' : (b : Int) < 8 := by omega
    have hq8 : q < 8 := by omega
    have hb8 : b < 8 := by omega
    have hv := value_in (fs := ns.map fl) (inc := 4607182418800017408) (k := q) (by simp; omega) (by simpa using hlt)
    have hfl : FloatKind.f64.nearest (ns[q] : Int) = fl ns[q] := rfl
    have f1 := (fl_good (n := ns[q]) (by have := hn _ (List.getElem_mem hlt); omega)).1
    have ho : FloatKind.f64.format.order (fl ns[q]) (fl ns[q]) = some .eq := by rw [order_pos (by unfold fI; omega) (by unfold fI; omega)]; simp
    simp [AO, h8] at hv
    rw [← hbb]
    have hb2 : b < ns.length := by omega
    have e2 : bst ns (q + 1) = if ns[b] < ns[q] then q else b := by
      show (if ns.getD (bst ns q) 0 < ns.getD q 0 then q else bst ns q) = _
      rw [← hbb]; simp [hlt, hb2]
    rw [e2] at ih
    by_cases hc : ns[b] < ns[q]
    · simp [CO, lpd, loopsIn, Try.f3, ht3, L3, T3, hw, hlt, h8, h8', h9', hv, hfl, ho, hb2, hc, Nat.add_one_le_iff, hq8, hb8]
      simp [CO, hc, h8] at ih
      exact ih
    · simp [CO, lpd, loopsIn, Try.f3, ht3, L3, T3, hw, hlt, h8, h8', h9', hv, hfl, ho, hb2, hc, Nat.add_one_le_iff, hq8, hb8]
      simp [CO, hc, h8] at ih
      exact ih
theorem act_counts (l : List Nat) (hb : ∀ x ∈ l, x < 256) : S.f 3 [.d (.fz (l.map fun b : Nat => [.int .u8 b]))] [] = some (.ret (.d (.bool true)), []) := by
  refine SL_enter Try.func3 rfl ht3 rfl ?_
  by_cases hl : l.length ≤ 200
  · have hl' : ¬ 200 < (l.length : Int) := by omega
    have hnew := new_ok (n := 8) (by decide)
    obtain ⟨ns, h8, hn, env, e3, e5, hloop⟩ := counts_loop l hl hb l.length 0 (List.replicate 8 0) (by simp) (by simp) (by simp)
    obtain ⟨env2, e3', e8', hloop2⟩ := best_loop h8 hn 8 0 (by simp)
    have htop := top_ok (fs := ns.map fl) (inc := 4607182418800017408) (nots := []) (by simp; omega) (fun f hf => by
      obtain ⟨n, hm, rfl⟩ := List.mem_map.1 hf
      have := (fl_good (n := n) (by have := hn n hm; omega)).1
      omega)
    have htb := top_bst hn 7 (by omega)
    simp [h8, htb] at htop
    have hstep := step_ok (fs := ns.map fl) (inc := 4607182418800017408)
    simp [AO, h8] at htop hstep
    have ho : FloatKind.f64.format.order 4607182418800017408 4607182418800017408 = some .eq := by kernel_rfl
    have hfl0 : fl 0 = 0 := by kernel_rfl
    have hbl : bst ns 8 < 8 := by rcases bst_le (ns := ns) 8 with h | h <;> omega
    have hw : IntKind.i64.wrap ((bst ns 8 : Int) + 1) = bst ns 8 + 1 := wrap_i64 (by omega) (by omega)
    simp [AO] at hnew
    simp [CO, hfl0, List.replicate] at hloop
    simp [CO, h8, bst] at hloop2
    simp [Try.f3, ht3, L3, known_true, hl', hnew, List.replicate, hloop, e3, e5, h8, hloop2, e3', e8', htop, hstep, ho, hw]
  · have hl' : 200 < (l.length : Int) := by omega
    simp [Try.f3, ht3, known_true, hl']
end Go.VL.Try
