/- Floats of 64 bits: their order is that of whole numbers. -/
import Derived.Test.YtbgjkpokmlkgiaaVa
import Derived.Test.YtbgjkpokmlkgiaaB
namespace Go.VL
open Go Ieee

def fB : Nat := 4503599627370496
def fS : Nat := 9223372036854775808
def fI : Nat := 9218868437227405312
/-- A rung's magnitude, in least units. -/
def fmag (r : Nat) : Nat := if r < fB then r else (fB + r % fB) * 2 ^ (r / fB - 1)
def fneg (x : Nat) : Bool := x / fS % 2 == 1
def frung (x : Nat) : Nat := x % fS
/-- A float's place among whole numbers. -/
def fval (x : Nat) : Int := if fneg x then -(fmag (frung x) : Int) else fmag (frung x)
/-- It is no NaN. -/
def fok (x : Nat) : Prop := frung x ≤ fI
instance (x : Nat) : Decidable (fok x) := by unfold fok; infer_instance

theorem fmag_lt {r r' : Nat} (h : r < r') : fmag r < fmag r' := by
  unfold fmag
  have hB : 0 < fB := by decide
  have e1 := Nat.div_add_mod r fB
  have e2 := Nat.div_add_mod r' fB
  have m1 := Nat.mod_lt r hB
  have m2 := Nat.mod_lt r' hB
  have pos : ∀ k, 0 < 2 ^ k := fun k => Nat.pow_pos (by decide)
  by_cases h1 : r < fB
  · rw [if_pos h1]
    by_cases h2 : r' < fB
    · rw [if_pos h2]; exact h
    · rw [if_neg h2]
      calc r < fB := h1
        _ ≤ fB + r' % fB := Nat.le_add_right _ _
        _ ≤ (fB + r' % fB) * 2 ^ (r' / fB - 1) := Nat.le_mul_of_pos_right _ (pos _)
  · have h2 : ¬ r' < fB := by omega
    rw [if_neg h1, if_neg h2]
    have d1 : 1 ≤ r / fB := (Nat.le_div_iff_mul_le hB).2 (by omega)
    have dle : r / fB ≤ r' / fB := Nat.div_le_div_right (Nat.le_of_lt h)
    rcases Nat.lt_or_ge (r / fB) (r' / fB) with d | d
    · calc (fB + r % fB) * 2 ^ (r / fB - 1) < (fB + fB) * 2 ^ (r / fB - 1) := Nat.mul_lt_mul_of_pos_right (by omega) (pos _)
        _ = fB * 2 ^ (r / fB) := by
          have : r / fB = (r / fB - 1) + 1 := by omega
          rw [this, Nat.pow_succ, Nat.add_sub_cancel, ← Nat.two_mul]
          rw [Nat.mul_comm 2 fB, Nat.mul_assoc, Nat.mul_comm 2 (2 ^ _)]
        _ ≤ fB * 2 ^ (r' / fB - 1) := Nat.mul_le_mul_left _ (Nat.pow_le_pow_right (by decide) (by omega))
        _ ≤ (fB + r' % fB) * 2 ^ (r' / fB - 1) := Nat.mul_le_mul_right _ (Nat.le_add_right _ _)
    · have de : r / fB = r' / fB := by omega
      rw [de] at e1 ⊢
      exact Nat.mul_lt_mul_of_pos_right (by omega) (pos _)
theorem fmag_inj {r r' : Nat} (h : fmag r = fmag r') : r = r' := by
  rcases Nat.lt_trichotomy r r' with h1 | h1 | h1
  · have := fmag_lt h1; omega
  · exact h1
  · have := fmag_lt h1; omega

def cmpZ (a b : Int) : Ordering := if a < b then .lt else if a = b then .eq else .gt
theorem compare_cmpZ (a b : Int) : compare a b = cmpZ a b := by
  show compareOfLessAndEq a b = _
  unfold compareOfLessAndEq cmpZ
  rfl
theorem cmpZ_mul {a b c : Int} (hc : 0 < c) : cmpZ (a * c) (b * c) = cmpZ a b := by
  unfold cmpZ
  have h1 : a * c < b * c ↔ a < b := ⟨fun h => Int.lt_of_mul_lt_mul_right h (Int.le_of_lt hc), fun h => Int.mul_lt_mul_of_pos_right h hc⟩
  have h2 : a * c = b * c ↔ a = b := ⟨fun h => Int.eq_of_mul_eq_mul_right (Int.ne_of_gt hc) h, fun h => by rw [h]⟩
  simp only [h1, h2]

/-- What a float is read as. -/
theorem read_num {x : Nat} (h : frung x < fI) : ∃ m e, double.read x = .number (fneg x) m (double.leastPlace + (e : Nat)) ∧ m * 2 ^ e = fmag (frung x) := by
  have hw : double.signWeight = fS := by decide
  have hb : double.binade = fB := by decide
  have hi : double.infRung = fI := by decide
  unfold Format.read
  simp only [hw, hb, hi]
  unfold fmag
  by_cases h1 : frung x < fB
  · refine ⟨frung x, 0, ?_, by simp [h1]⟩
    have h1' : x % fS < fB := h1
    rw [if_pos h1']
    simp [fneg, frung]
  · refine ⟨fB + frung x % fB, frung x / fB - 1, ?_, by rw [if_neg h1]⟩
    have h1' : ¬ x % fS < fB := h1
    have h2' : x % fS < fI := h
    rw [if_neg h1', if_pos h2']
    simp [fneg, frung]
theorem read_inf {x : Nat} (h : frung x = fI) : double.read x = .infinity (fneg x) := by
  have hw : double.signWeight = fS := by decide
  have hb : double.binade = fB := by decide
  have hi : double.infRung = fI := by decide
  unfold Format.read
  simp only [hw, hb, hi]
  have h' : x % fS = fI := h
  rw [if_neg (by rw [h']; decide), if_neg (by rw [h']; decide), if_pos h']
  rfl
theorem read_nan {x : Nat} (h : ¬ fok x) : ∃ s f, double.read x = .nan s f := by
  have hw : double.signWeight = fS := by decide
  have hb : double.binade = fB := by decide
  have hi : double.infRung = fI := by decide
  unfold Format.read
  simp only [hw, hb, hi]
  have h' : ¬ x % fS ≤ fI := h
  have : fB < fI := by decide
  rw [if_neg (by omega), if_neg (by omega), if_neg (by omega)]
  exact ⟨_, _, rfl⟩

theorem signed_mul {s : Bool} {m up b : Nat} : signed s m up * (2 ^ b : Nat) = signed s m (up + b) := by
  unfold signed
  simp only [Nat.shiftLeft_eq, Nat.pow_add]
  cases s <;> simp [Int.mul_assoc, Int.neg_mul]
theorem order_num {s t : Bool} {m n e f : Nat} : Datum.order (.number s m (double.leastPlace + (e : Nat))) (.number t n (double.leastPlace + (f : Nat))) = some (cmpZ (signed s m e) (signed t n f)) := by
  unfold Datum.order
  simp only
  rw [compare_cmpZ]
  have hmin : min (double.leastPlace + (e : Int)) (double.leastPlace + (f : Int)) = double.leastPlace + ((min e f : Nat) : Int) := by omega
  rw [hmin]
  have e1 : (double.leastPlace + (e : Int) - (double.leastPlace + ((min e f : Nat) : Int))).toNat = e - min e f := by omega
  have e2 : (double.leastPlace + (f : Int) - (double.leastPlace + ((min e f : Nat) : Int))).toNat = f - min e f := by omega
  rw [e1, e2, ← cmpZ_mul (c := ((2 ^ min e f : Nat) : Int)) (by have := Nat.pow_pos (n := min e f) (show 0 < 2 by decide); omega), signed_mul, signed_mul]
  congr 3 <;> omega

theorem signed_fval {x m e : Nat} (h : m * 2 ^ e = fmag (frung x)) : signed (fneg x) m e = fval x := by
  unfold signed fval
  rw [Nat.shiftLeft_eq, h]

/-- Of floats that are no NaNs the order is that of their places. -/
theorem order_fval {x y : Nat} (hx : fok x) (hy : fok y) : FloatKind.f64.format.order x y = some (cmpZ (fval x) (fval y)) := by
  show Datum.order (double.read x) (double.read y) = _
  have inf_gt : ∀ r, r < fI → (fmag r : Int) < fmag fI := fun r h => by have := fmag_lt h; omega
  have nonneg : ∀ z, fok z → frung z < fI → -(fmag fI : Int) < fval z ∧ fval z < fmag fI := by
    intro z hz h
    have := inf_gt _ h
    unfold fval
    split <;> omega
  unfold fok at hx hy
  rcases Nat.lt_or_ge (frung x) fI with h1 | h1
  · obtain ⟨m, e, hr, hm⟩ := read_num h1
    rcases Nat.lt_or_ge (frung y) fI with h2 | h2
    · obtain ⟨n, f, hr', hn⟩ := read_num h2
      rw [hr, hr', order_num, signed_fval hm, signed_fval hn]
    · have h2 : frung y = fI := by omega
      have hn := nonneg x hx h1
      rw [hr, read_inf h2]
      unfold Datum.order
      simp only
      have hv : fval y = if fneg y then -(fmag fI : Int) else fmag fI := by unfold fval; rw [h2]
      rw [hv]
      unfold cmpZ
      generalize fmag fI = M at *
      generalize fval x = a at *
      cases fneg y
      · simp only [Bool.false_eq_true, if_false]; rw [if_pos (by omega)]
      · simp only [if_true]; rw [if_neg (by omega), if_neg (by omega)]
  · have h1 : frung x = fI := by omega
    have hv : fval x = if fneg x then -(fmag fI : Int) else fmag fI := by unfold fval; rw [h1]
    rcases Nat.lt_or_ge (frung y) fI with h2 | h2
    · obtain ⟨n, f, hr', hn'⟩ := read_num h2
      have hn := nonneg y hy h2
      rw [hr', read_inf h1]
      unfold Datum.order
      simp only
      rw [hv]
      unfold cmpZ
      generalize fmag fI = M at *
      generalize fval y = a at *
      cases fneg x
      · simp only [Bool.false_eq_true, if_false]; rw [if_neg (by omega), if_neg (by omega)]
      · simp only [if_true]; rw [if_pos (by omega)]
    · have h2 : frung y = fI := by omega
      have hv' : fval y = if fneg y then -(fmag fI : Int) else fmag fI := by unfold fval; rw [h2]
      rw [read_inf h1, read_inf h2]
      unfold Datum.order
      simp only
      rw [hv, hv']
      have : (0 : Int) < fmag fI := by have := fmag_lt (show 0 < fI by decide); omega
      unfold cmpZ
      generalize fmag fI = M at *
      cases fneg x <;> cases fneg y <;> simp only [Bool.false_eq_true, if_false, if_true, Int.lt_irrefl]
      · rfl
      · rw [if_neg (by omega), if_neg (by omega)]; rfl
      · rw [if_pos (by omega)]; rfl
      · rfl
theorem order_nan {x y : Nat} (h : ¬ fok x ∨ ¬ fok y) : FloatKind.f64.format.order x y = none := by
  show Datum.order (double.read x) (double.read y) = _
  rcases h with h | h
  · obtain ⟨s, f, hr⟩ := read_nan h
    rw [hr]; rfl
  · obtain ⟨s, f, hr⟩ := read_nan h
    rw [hr]; cases double.read x <;> rfl
end Go.VL
set_option maxRecDepth 10000
namespace Go.VL.Try
open Go Go.VL Go.Proofs

theorem order_pos {a b : Nat} (ha : a ≤ fI) (hb : b ≤ fI) : FloatKind.f64.format.order a b = some (if a < b then .lt else if a = b then .eq else .gt) := by
  have e : ∀ x, x ≤ fI → frung x = x ∧ fneg x = false := by
    intro x hx
    unfold fI at hx
    constructor
    · unfold frung fS; omega
    · unfold fneg fS; rw [Nat.div_eq_of_lt (by omega)]; rfl
  obtain ⟨a1, a2⟩ := e a ha
  obtain ⟨b1, b2⟩ := e b hb
  rw [order_fval (by unfold fok; omega) (by unfold fok; omega)]
  unfold fval cmpZ
  rw [a1, a2, b1, b2]
  simp only [Bool.false_eq_true, if_false]
  rcases Nat.lt_trichotomy a b with h | h | h
  · have := fmag_lt h
    rw [if_pos (by omega), if_pos h]
  · subst h; simp
  · have := fmag_lt h
    rw [if_neg (by omega), if_neg (by omega), if_neg (by omega), if_neg (by omega)]
theorem wcmp_pos {a b : Nat} (ha : a ≤ fI) (hb : b ≤ fI) : 0 < wcmp a b ↔ b < a := by
  have ha' : a < 9223372036854775808 := by unfold fI at ha; omega
  have hb' : b < 9223372036854775808 := by unfold fI at hb; omega
  have e1 : plc a = 0 := by unfold plc; rw [order_pos ha ha]; simp
  have e2 : plc b = 0 := by unfold plc; rw [order_pos hb hb]; simp
  have e3 : sgn a = 1 := by unfold sgn; rw [if_neg (by omega)]
  have e4 : sgn b = 1 := by unfold sgn; rw [if_neg (by omega)]
  unfold wcmp
  rw [e1, e2, e3, e4, order_pos ha hb]
  simp only [ne_eq, not_true_eq_false, or_self, if_false]
  rcases Nat.lt_trichotomy a b with h | h | h
  · simp [h]; omega
  · subst h; simp [cmpI]
  · simp [Nat.lt_asymm h, Nat.ne_of_gt h, h]

def fl (n : Nat) : Nat := FloatKind.f64.nearest (n : Int)
def flGood (n : Nat) : Bool := decide (fl n ≤ 5958262307011166208) && decide (fl n < fl (n + 1)) && (FloatKind.f64.format.add (fl n) 4607182418800017408 == some (fl (n + 1)))
theorem fl_good0 : (List.range 202).all flGood = true := by kernel_rfl
theorem fl_good {n : Nat} (h : n < 202) : fl n ≤ 5958262307011166208 ∧ fl n < fl (n + 1) ∧ FloatKind.f64.format.add (fl n) 4607182418800017408 = some (fl (n + 1)) := by
  have := List.all_eq_true.1 fl_good0 n (List.mem_range.2 h)
  unfold flGood at this
  simp only [Bool.and_eq_true, decide_eq_true_eq, beq_iff_eq] at this
  exact ⟨this.1.1, this.1.2, this.2⟩
theorem fl_mono {a : Nat} : ∀ (d : Nat), a + d < 202 → fl a ≤ fl (a + d) ∧ (0 < d → fl a < fl (a + d))
  | 0, _ => ⟨Nat.le_refl _, by omega⟩
  | d + 1, h => by
    have h1 := (fl_mono (a := a) d (by omega)).1
    have h2 := (fl_good (n := a + d) (by omega)).2.1
    have e : a + d + 1 = a + (d + 1) := by omega
    rw [e] at h2
    exact ⟨by omega, by omega⟩
theorem fl_lt {a b : Nat} (ha : a < 202) (hb : b < 202) : fl a < fl b ↔ a < b := by
  constructor
  · intro h
    rcases Nat.lt_or_ge a b with h1 | h1
    · exact h1
    · have := (fl_mono (a := b) (a - b) (by omega)).1
      rw [show b + (a - b) = a by omega] at this; omega
  · intro h
    have := (fl_mono (a := a) (b - a) (by omega)).2 (by omega)
    rwa [show a + (b - a) = b by omega] at this

/-- Objects: an Act, and eight numbers. -/
abbrev CO (ns : List Nat) : St := [.box true 0 [.sl 2 0 0 ns.length, .d (.flt 4607182418800017408)], .box true 0 (ns.map fun n : Nat => .d (.int .i64 n)), .arr true 0 1 ((ns.map fl).map fun v => [.flt v])]

theorem counts_loop (l : List Nat) (hl : l.length ≤ 200) (hb : ∀ x ∈ l, x < 256) : ∀ (k i : Nat) (ns : List Nat), i + k = l.length → ns.length = 8 → (∀ n ∈ ns, n ≤ i) →
    ∃ ns', ns'.length = 8 ∧ (∀ n ∈ ns', n ≤ 200) ∧ ∃ env, env 3 = .ptr 0 0 0 0 ∧ env 5 = .ptr 1 0 0 0 ∧
    Lb Try.prog HT 3 0 (lpc Try.prog 3 0) ⟨mkE [(0, .d (.fz (l.map fun b : Nat => [.int .u8 b]))), (3, .ptr 0 0 0 0), (5, .ptr 1 0 0 0), (6, .d (.int .i64 i))], [], CO ns⟩ = some (.exit 0, ⟨env, [], CO ns'⟩) := by
  intro k
  induction k with
  | zero =>
    intro i ns hi h8 hn
    refine ⟨ns, h8, fun n h => by have := hn n h; omega, ?_⟩
    have hi : i = l.length := by omega
    subst hi
    refine ⟨_, ?_, ?_, by rw [Lb_lp Try.func3]; simp [lpd, loopsIn, Try.f3]; rfl⟩ <;> simp
  | succ k ih =>
    intro i ns hi h8 hn
    have hlt : i < l.length := by omega
    have hw : IntKind.i64.wrap ((i : Int) + 1) = i + 1 := wrap_i64 (by omega) (by omega)
    obtain ⟨x, hx⟩ : ∃ x, x = l[i] := ⟨_, rfl⟩
    have hxb : x < 256 := by rw [hx]; exact hb _ (List.getElem_mem hlt)
    obtain ⟨y, hy⟩ : ∃ y : Nat, (x : Int) % 8 = y := ⟨x % 8, by omega⟩
    have hy8 : y < ns.length := by omega
    have hy0 : (y : Int) < 8 := by omega
    have hyt : (x : Int).tmod 8 = y := by rw [← hy]; exact Int.tmod_eq_emod_of_nonneg (by omega)
    have hnx := hn _ (List.getElem_mem hy8)
    obtain ⟨g1, g2, g3⟩ := fl_good (n := ns[y]) (by omega)
    obtain ⟨g1', g2', -⟩ := fl_good (n := ns[y] + 1) (by omega)
    have hbump := bump_ok (fs := ns.map fl) (inc := 4607182418800017408) (k := y) (x := fl (ns[y] + 1)) (by simp; omega) (by simpa using hy8) (by simpa using g3)
      (by rw [order_pos (by unfold fI; omega) (by unfold fI; omega)]; simp) (by
        rw [order_pos (by unfold fI; omega) (by unfold fI; omega)]
        rcases Nat.lt_or_ge (fl (ns[y] + 1)) 5958262307011166208 with h | h
        · simp [h]
        · have : fl (ns[y] + 1) = 5958262307011166208 := by omega
          simp [this])
    obtain ⟨ns', h1, h2, h3⟩ := ih (i + 1) (ns.set y (ns[y] + 1)) (by omega) (by simpa using h8) (fun n hm => by
      rcases List.mem_or_eq_of_mem_set hm with h | h
      · have := hn n h; omega
      · rw [h]; omega)
    refine ⟨ns', h1, h2, ?_⟩
    obtain ⟨env, e3, e5, h3⟩ := h3
    refine ⟨env, e3, e5, ?_⟩
    rw [Lb_lp Try.func3]
    have hw2 : IntKind.i64.wrap (y : Int) = y := wrap_i64 (by omega) (by omega)
    have hw3 : IntKind.i64.wrap ((y : Int) + 1) = y + 1 := wrap_i64 (by omega) (by omega)
    have hw4 : IntKind.i64.wrap ((ns[y] : Int) + 1) = ns[y] + 1 := wrap_i64 (by omega) (by omega)
    have hw5 : IntKind.u8.wrap (y : Int) = y := by simp only [IntKind.wrap, IntKind.bits, IntKind.signed]; simp; omega
    simp [AO] at hbump
    have hset : (ns.map fun n : Nat => PV.d (VL.D.int .i64 n)).set y (.d (.int .i64 ((ns[y] : Int) + 1))) = (ns.set y (ns[y] + 1)).map fun n : Nat => .d (.int .i64 n) := by rw [List.map_set]; rfl
    have hset2 : (ns.map ((fun v => [VL.D.flt v]) ∘ fl)).set y [VL.D.flt (fl (ns[y] + 1))] = (ns.set y (ns[y] + 1)).map ((fun v => [VL.D.flt v]) ∘ fl) := by rw [List.map_set]; rfl
    simp [-List.map_set, hset, hset2, CO, lpd, loopsIn, Try.f3, ht3, L3, hlt, hw, ← hx, hy, hyt, hbump, hw2, hw3, hw4, hw5, hy8, hy0, Nat.add_one_le_iff]
    simp [-List.map_set, hset, CO] at h3
    exact h3
end Go.VL.Try
namespace Go.VL
open Go Ieee

theorem word_ok {neg : Bool} {r : Nat} (h : r ≤ fI) : double.word neg r < 18446744073709551616 ∧ fok (double.word neg r) := by
  have hS : double.signWeight = 9223372036854775808 := by decide
  unfold fI at h
  unfold Format.word fok frung fS fI
  rw [hS]
  cases neg
  · simp only [Bool.false_eq_true, if_false]; omega
  · simp only [if_true]; omega
theorem write_num {s : Bool} {m : Nat} {p : Int} : double.write (.number s m p) < 18446744073709551616 ∧ fok (double.write (.number s m p)) := by
  have hI : double.infRung = fI := by decide
  show double.nearest s m p < _ ∧ fok (double.nearest s m p)
  unfold Format.nearest
  split
  · exact word_ok (Nat.zero_le _)
  · rw [hI]; exact word_ok (Nat.min_le_right _ _)
theorem write_inf {s : Bool} : double.write (.infinity s) < 18446744073709551616 ∧ fok (double.write (.infinity s)) := by
  have hI : double.infRung = fI := by decide
  show double.word s double.infRung < _ ∧ fok (double.word s double.infRung)
  rw [hI]; exact word_ok (Nat.le_refl _)
theorem read_ok {a : Nat} (ha : fok a) : (∃ s m p, double.read a = .number s m p) ∨ ∃ s, double.read a = .infinity s := by
  unfold fok at ha
  rcases Nat.lt_or_ge (frung a) fI with h | h
  · obtain ⟨m, e, hr, _⟩ := read_num h; exact .inl ⟨_, _, _, hr⟩
  · exact .inr ⟨_, read_inf (by omega)⟩
theorem add_ok {a b : Nat} (ha : fok a) (hb : frung b < fI) : ∃ c, FloatKind.f64.format.add a b = some c ∧ c < 18446744073709551616 ∧ fok c := by
  show ∃ c, ((double.read a).sum (double.read b)).map double.write = some c ∧ _
  obtain ⟨n, f, hr, _⟩ := read_num hb
  rw [hr]
  rcases read_ok ha with ⟨s, m, p, h⟩ | ⟨s, h⟩
  · rw [h]; exact ⟨_, rfl, write_num⟩
  · rw [h]; exact ⟨_, rfl, write_inf⟩
theorem mul_ok {a b : Nat} {s : Bool} {n : Nat} {q : Int} (ha : fok a) (hb : double.read b = .number s n q) (hn : n ≠ 0) : ∃ c, FloatKind.f64.format.mul a b = some c ∧ c < 18446744073709551616 ∧ fok c := by
  show ∃ c, ((double.read a).product (double.read b)).map double.write = some c ∧ _
  rw [hb]
  rcases read_ok ha with ⟨s', m, p, h⟩ | ⟨s', h⟩
  · rw [h]; exact ⟨_, rfl, write_num⟩
  · rw [h]
    refine ⟨double.write (.infinity (s' ^^ s)), ?_, write_inf⟩
    simp [Datum.product, hn]

theorem cut_le {n drop : Nat} (h : n.log2 ≤ drop + 52) : Toward.even.cut false n drop ≤ 2 * fB := by
  have h53 : 2 * fB = 2 ^ 53 := by decide
  unfold Toward.cut
  simp only
  generalize hmore : Bool.toNat _ = more
  have hm : more ≤ 1 := by rw [← hmore]; exact Bool.toNat_le _
  have hlow : n / 1 <<< min drop (n.log2 + 2) ≤ 2 ^ 53 - 1 := by
    rw [Nat.shiftLeft_eq, Nat.one_mul]
    have hlt := Nat.lt_log2_self (n := n)
    rcases Nat.le_total drop (n.log2 + 2) with h1 | h1
    · rw [Nat.min_eq_left h1]
      have : n / 2 ^ drop < 2 ^ 53 := by
        rw [Nat.div_lt_iff_lt_mul (Nat.pow_pos (by decide)), ← Nat.pow_add]
        exact Nat.lt_of_lt_of_le hlt (Nat.pow_le_pow_right (by decide) (by omega))
      omega
    · rw [Nat.min_eq_right h1, Nat.div_eq_of_lt]
      · exact Nat.zero_le _
      · exact Nat.lt_of_lt_of_le hlt (Nat.pow_le_pow_right (by decide) (by omega))
  have : 1 ≤ 2 ^ 53 := Nat.pow_pos (by decide)
  omega
/-- A number below 2^k is not rounded above it. -/
theorem near_le {mag : Nat} {p : Int} {k : Nat} (hk : 0 < k) (hm : mag ≠ 0) (h : (mag.log2 : Int) + p + 1074 < k + 52) : double.nearest false mag p ≤ (k + 1) * fB := by
  have hI : double.infRung = fI := by decide
  have hB : double.binade = fB := by decide
  have hL : double.leastPlace = -1074 := by decide
  have hF : (double.fractionBits : Int) = 52 := rfl
  unfold Format.nearest
  rw [if_neg hm, hI, hB, hL, hF]
  generalize hlast : max (p + (mag.log2 : Int) - 52) (-1074) = last
  have hl1 : p + (mag.log2 : Int) - 52 ≤ last := by omega
  have hl2 : -1074 ≤ last := by omega
  have hl3 : last + 1074 < k ∨ last = -1074 := by omega
  have hkept : Toward.even.cut false (mag <<< (p - last).toNat) (last - p).toNat ≤ 2 * fB := by
    refine cut_le ?_
    have hlog : (mag <<< (p - last).toNat).log2 = mag.log2 + (p - last).toNat := by
      have hne : mag <<< (p - last).toNat ≠ 0 := by rw [Nat.shiftLeft_eq]; exact Nat.mul_ne_zero hm (Nat.ne_of_gt (Nat.pow_pos (by decide)))
      rw [Nat.shiftLeft_eq, Nat.log2_eq_iff (by rw [← Nat.shiftLeft_eq]; exact hne)]
      have h1 := Nat.log2_self_le (n := mag) hm
      have h2 := Nat.lt_log2_self (n := mag)
      constructor
      · rw [Nat.pow_add]; exact Nat.mul_le_mul_right _ h1
      · have : 2 ^ (mag.log2 + (p - last).toNat + 1) = 2 ^ (mag.log2 + 1) * 2 ^ (p - last).toNat := by rw [← Nat.pow_add]; congr 1; omega
        rw [this]; exact Nat.mul_lt_mul_of_pos_right h2 (Nat.pow_pos (by decide))
    rw [hlog]; omega
  show double.word false _ ≤ _
  unfold Format.word
  simp only [Bool.false_eq_true, if_false]
  refine Nat.le_trans (Nat.min_le_left _ _) ?_
  rcases hl3 with h1 | h1
  · have e1 : (last - -1074).toNat ≤ k - 1 := by omega
    have e2 : (last - -1074).toNat * fB ≤ (k - 1) * fB := Nat.mul_le_mul_right _ e1
    have e3 : (k + 1) * fB = (k - 1) * fB + 2 * fB := by
      have : k + 1 = (k - 1) + 2 := by omega
      rw [this, Nat.add_mul]
    omega
  · subst h1
    have e1 : ((-1074 : Int) - -1074).toNat = 0 := by decide
    rw [e1, Nat.zero_mul, Nat.zero_add]
    have e2 : 2 * fB ≤ (k + 1) * fB := Nat.mul_le_mul_right _ (by omega)
    omega
theorem log2_le {m K : Nat} (hm : m ≠ 0) (h : m < 2 ^ (K + 1)) : m.log2 ≤ K := by
  have := (Nat.log2_lt hm).2 h
  omega
/-- A float that is not above 2^(K-1023), times a constant: not above 2^(K+q+54-1023). -/
theorem mul_le {x c n K k : Nat} {q : Int} (hx : x ≤ K * fB) (hK : K ≤ 2046) (hc : double.read c = .number false n q) (hn0 : n ≠ 0) (hn : n < 2 ^ 53) (hk0 : 0 < k) (hk : (K : Int) + q + 53 < k) :
    ∃ y, FloatKind.f64.format.mul x c = some y ∧ y ≤ (k + 1) * fB := by
  have hB : (fB : Nat) = 4503599627370496 := rfl
  have hxI : x < fI := by
    have : K * fB ≤ 2046 * fB := Nat.mul_le_mul_right _ hK
    unfold fI; omega
  have hx63 : x < 9223372036854775808 := by unfold fI at hxI; omega
  have hneg : fneg x = false := by unfold fneg fS; rw [Nat.div_eq_of_lt hx63]; rfl
  have hrung : frung x = x := by unfold frung fS; omega
  show ∃ y, ((double.read x).product (double.read c)).map double.write = some y ∧ _
  rw [hc]
  -- x by its digits
  have hread : ∃ m e, double.read x = .number false m (double.leastPlace + ((e : Nat) : Int)) ∧ m < 2 ^ 53 ∧ (e + 1 ≤ K ∨ e = 0) := by
    have hw : double.signWeight = fS := by decide
    have hb : double.binade = fB := by decide
    have hi : double.infRung = fI := by decide
    unfold Format.read
    simp only [hw, hb, hi]
    have hmod : x % fS = x := hrung
    have hdiv : (x / fS % 2 == 1) = false := hneg
    rw [hmod, hdiv]
    have em := Nat.mod_lt x (show 0 < fB by decide)
    by_cases h1 : x < fB
    · rw [if_pos h1]; exact ⟨x, 0, by simp, by omega, .inr rfl⟩
    · rw [if_neg h1, if_pos hxI]
      refine ⟨fB + x % fB, x / fB - 1, rfl, by omega, .inl ?_⟩
      have d1 : 1 ≤ x / fB := (Nat.le_div_iff_mul_le (by decide)).2 (by omega)
      have d2 : x / fB ≤ K := Nat.div_le_of_le_mul (by rw [Nat.mul_comm]; exact hx)
      omega
  obtain ⟨m, e, hr, hm, he⟩ := hread
  rw [hr]
  refine ⟨double.nearest false (m * n) (double.leastPlace + (e : Int) + q), rfl, ?_⟩
  rcases Nat.eq_zero_or_pos m with h0 | h0
  · subst h0
    unfold Format.nearest
    rw [if_pos (by simp)]
    unfold Format.word
    simp
  · refine near_le hk0 (Nat.mul_ne_zero (by omega) hn0) ?_
    have hL : double.leastPlace = -1074 := by decide
    rw [hL]
    have hlog : (m * n).log2 ≤ 105 := log2_le (Nat.mul_ne_zero (by omega) hn0) (by
      calc m * n < 2 ^ 53 * 2 ^ 53 := Nat.mul_lt_mul'' hm hn
        _ = 2 ^ (105 + 1) := by rw [← Nat.pow_add])
    rcases he with h1 | h1 <;> omega
end Go.VL
