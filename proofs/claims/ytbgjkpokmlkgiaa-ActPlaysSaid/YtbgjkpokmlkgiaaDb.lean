/- Part of a proof about this program, over plain data. -/
import Derived.Test.YtbgjkpokmlkgiaaDa
set_option maxRecDepth 10000
namespace Go.VL.Try
open Go Go.VL Go.Proofs
/-- All is well with an Act's floats. -/
structure WF (fs : List Nat) (s : Nat) : Prop where
  len : fs.length ≤ 256
  lt : ∀ f ∈ fs, f < 18446744073709551616
  ok : ∀ f ∈ fs, fok f
  step : s ≤ 5958262307011166208
theorem read_small : Ieee.double.read 3256102530588868608 = .number false 4503599627370496 (-352) := by decide +kernel
theorem read_grow : Ieee.double.read 4607463893776728064 = .number false 4785074604081152 (-52) := by decide +kernel
theorem low_ok {f : Nat} (h : fok f) : FloatKind.f64.format.mul f 3256102530588868608 = some (lowG f) ∧ lowG f < 18446744073709551616 ∧ fok (lowG f) := by
  obtain ⟨c, h1, h2, h3⟩ := mul_ok h read_small (by decide)
  have : lowG f = c := by unfold lowG; rw [h1]; rfl
  rw [this]; exact ⟨h1, h2, h3⟩
theorem fok_small {x : Nat} (h : x ≤ 9218868437227405312) : fok x := by
  unfold fok frung fS fI; omega
theorem low_le {s : Nat} (h : s ≤ 1326 * fB) : FloatKind.f64.format.mul s 3256102530588868608 = some (lowG s) ∧ lowG s ≤ 5958262307011166208 := by
  obtain ⟨y, h1, h2⟩ := mul_le (k := 1028) h (by decide) read_small (by decide) (by decide) (by decide) (by decide)
  have : lowG s = y := by unfold lowG; rw [h1]; rfl
  rw [this]
  refine ⟨h1, ?_⟩
  unfold fB at h2; omega
def growG (s : Nat) : Nat := (FloatKind.f64.format.mul s 4607463893776728064).getD 0
theorem grow_le {s : Nat} (h : s ≤ 5958262307011166208) : FloatKind.f64.format.mul s 4607463893776728064 = some (growG s) ∧ growG s ≤ 1326 * fB := by
  obtain ⟨y, h1, h2⟩ := mul_le (x := s) (K := 1323) (k := 1325) (by unfold fB; omega) (by decide) read_grow (by decide) (by decide) (by decide) (by decide)
  have : growG s = y := by unfold growG; rw [h1]; rfl
  rw [this]; exact ⟨h1, h2⟩
/-- A step more. -/
def addG (f s : Nat) : Nat := (FloatKind.f64.format.add f s).getD 0
theorem addG_ok {f s : Nat} (h : fok f) (hs : s ≤ 5958262307011166208) : FloatKind.f64.format.add f s = some (addG f s) ∧ addG f s < 18446744073709551616 ∧ fok (addG f s) := by
  obtain ⟨c, h1, h2, h3⟩ := add_ok (b := s) h (by unfold frung fS fI; omega)
  have : addG f s = c := by unfold addG; rw [h1]; rfl
  rw [this]; exact ⟨h1, h2, h3⟩
theorem eq_self {f : Nat} (h : fok f) : FloatKind.f64.format.order f f = some .eq := by rw [order_fval h h]; simp [cmpZ]
def big (f : Nat) : Bool := decide (FloatKind.f64.format.order f 5958262307011166208 = some .gt)
theorem not_big {s : Nat} (h : s ≤ 9218868437227405312) (hb : big s = false) : s ≤ 5958262307011166208 := by
  unfold big at hb
  simp only [decide_eq_false_iff_not] at hb
  rcases Nat.lt_or_ge 5958262307011166208 s with h1 | h1
  · exact absurd (by rw [order_pos (by unfold fI; omega) (by unfold fI; omega), if_neg (by omega), if_neg (by omega)]) hb
  · exact h1
/-- The state, behind a decay and behind a bump. -/
def decF (p : List Nat × Nat) : List Nat × Nat := if big (growG p.2) = true then (p.1.map lowG, lowG (growG p.2)) else (p.1, growG p.2)
def bumpF (k : Nat) (p : List Nat × Nat) : List Nat × Nat :=
  let x := addG (p.1.getD k 0) p.2
  if big x = true then ((p.1.set k x).map lowG, lowG p.2) else (p.1.set k x, p.2)
theorem WF.low {fs : List Nat} {s t : Nat} (h : WF fs s) (ht : t ≤ 5958262307011166208) : WF (fs.map lowG) t :=
  ⟨by simpa using h.len, fun f hf => by obtain ⟨g, hg, rfl⟩ := List.mem_map.1 hf; exact (low_ok (h.ok g hg)).2.1, fun f hf => by obtain ⟨g, hg, rfl⟩ := List.mem_map.1 hf; exact (low_ok (h.ok g hg)).2.2, ht⟩
theorem WF.set {fs : List Nat} {s : Nat} (h : WF fs s) (k x : Nat) (hx : x < 18446744073709551616) (ho : fok x) : WF (fs.set k x) s :=
  ⟨by simpa using h.len, fun f hf => (List.mem_or_eq_of_mem_set hf).elim (h.lt f) (fun e => e ▸ hx), fun f hf => (List.mem_or_eq_of_mem_set hf).elim (h.ok f) (fun e => e ▸ ho), h.step⟩
theorem WF.dec {fs : List Nat} {s : Nat} (h : WF fs s) : WF (decF (fs, s)).1 (decF (fs, s)).2 := by
  obtain ⟨h1, h2⟩ := grow_le h.step
  unfold decF
  simp only
  split
  · exact h.low (low_le h2).2
  · rename_i hb
    exact ⟨h.len, h.lt, h.ok, not_big (by unfold fB at h2; omega) (by simpa using hb)⟩
theorem WF.bump {fs : List Nat} {s k : Nat} (h : WF fs s) (hk : k < fs.length) : WF (bumpF k (fs, s)).1 (bumpF k (fs, s)).2 := by
  have hg : fs.getD k 0 = fs[k] := by simp [List.getD, hk]
  obtain ⟨h1, h2, h3⟩ := addG_ok (h.ok _ (List.getElem_mem hk)) h.step
  unfold bumpF
  simp only [hg]
  have hw := h.set k _ h2 h3
  split
  · exact hw.low (low_le (by have := h.step; unfold fB; omega)).2
  · exact hw

section
variable {fs : List Nat} {s : Nat}
theorem decay_f (h : WF fs s) : S.f 20 [.ptr 0 0 0 0] (AO fs s) = some (.ret (.tup []), AO (decF (fs, s)).1 (decF (fs, s)).2) := by
  refine SL_enter Try.func20 rfl ht20 rfl ?_
  obtain ⟨h1, h2⟩ := grow_le h.step
  have hlow := lower_ok h.len (fun f hf => (low_ok (h.ok f hf)).1) (low_le h2).1
  simp [AO] at hlow
  by_cases hb : big (growG s) = true
  · have hb' : FloatKind.f64.format.order (growG s) 5958262307011166208 = some .gt := by simpa [big] using hb
    simp [Try.f20, ht20, h1, hb', hlow, decF, hb]
  · have hb' : ¬ FloatKind.f64.format.order (growG s) 5958262307011166208 = some .gt := by simpa [big] using hb
    simp [Try.f20, ht20, h1, hb', decF, hb]
theorem bump_f {k : Nat} (h : WF fs s) (hk : k < fs.length) : S.f 9 [.ptr 0 0 0 0, .d (.int .i64 (k + 1))] (AO fs s) = some (.ret (.d (.int .i64 0)), AO (bumpF k (fs, s)).1 (bumpF k (fs, s)).2) := by
  have hg : fs.getD k 0 = fs[k] := by simp [List.getD, hk]
  obtain ⟨h1, h2, h3⟩ := addG_ok (h.ok _ (List.getElem_mem hk)) h.step
  have he := eq_self h3
  have hl := h.len
  by_cases hb : big (addG fs[k] s) = true
  · have hb' : FloatKind.f64.format.order (addG fs[k] s) 5958262307011166208 = some .gt := by simpa [big] using hb
    have hw := h.set k _ h2 h3
    have hlow := lower_ok hw.len (fun f hf => (low_ok (hw.ok f hf)).1) (low_le (s := s) (by have := h.step; unfold fB; omega)).1
    refine SL_enter Try.func9 rfl ht9 rfl ?_
    have k1 : (1:Int) ≤ (k:Int) + 1 := by omega
    have k2 : (k:Int) + 1 ≤ fs.length := by omega
    have hw' : IntKind.i64.wrap (k : Int) = k := wrap_i64 (by omega) (by omega)
    have hbf : bumpF k (fs, s) = ((fs.set k (addG fs[k] s)).map lowG, lowG s) := by unfold bumpF; simp only [hg]; rw [if_pos hb]
    simp [AO] at hlow
    rw [hbf]
    simp [Try.f9, ht9, known_ok, k1, k2, must_true, catch_none, hw', hk, h1, he, hb', hlow]
  · have hb' : ¬ FloatKind.f64.format.order (addG fs[k] s) 5958262307011166208 = some .gt := by simpa [big] using hb
    have hbf : bumpF k (fs, s) = (fs.set k (addG fs[k] s), s) := by unfold bumpF; simp only [hg]; rw [if_neg hb]
    rw [bump_ok hl hk h1 he hb', hbf]
end

/-! The reference's Act -/
abbrev RO (old fs : List Nat) (s : Nat) : St := [.box true 0 [.sl 2 0 0 fs.length, .d (.flt s)], .arr true 0 1 (old.map fun v => [.flt v]), .arr true 0 1 (fs.map fun v => [.flt v])]
section
variable {fs : List Nat} {s : Nat}
theorem rnew_ok {n : Nat} (hn : n ≤ 256) : S.f 17 [.d (.int .i64 n)] [] = some (.ret (.tup [.ptr 0 0 0 0, .d (.int .i64 0)]), AO (List.replicate n 0) 4607182418800017408) := by
  refine SL_enter Try.func17 rfl ht17 rfl ?_
  have h1 : ¬ ((n : Int) < 0) := by omega
  have h2 : ¬ ((256 : Int) < n) := by omega
  have h3 : (n : Int) * 8 ≤ 140737488355328 := by omega
  simp [Try.f17, ht17, h1, h2, h3]
theorem rnew_bad {n : Int} (hn : n < 0 ∨ 256 < n) : S.f 17 [.d (.int .i64 n)] [] = some (.ret (.tup [.d .nilp, .d (.int .i64 1)]), []) := by
  refine SL_enter Try.func17 rfl ht17 rfl ?_
  by_cases h1 : n < 0
  · simp [Try.f17, ht17, h1]
  · have h2 : 256 < n := by omega
    simp [Try.f17, ht17, h1, h2]
theorem rvalue_out {k : Int} (hk : ¬ (1 ≤ k ∧ k ≤ fs.length)) : S.f 25 [.ptr 0 0 0 0, .d (.int .i64 k)] (AO fs s) = some (.ret (.d (.flt 0)), AO fs s) := by
  refine SL_enter Try.func25 rfl ht25 rfl ?_
  by_cases h1 : k < 1
  · simp [Try.f25, ht25, h1]
  · have h2 : (fs.length : Int) < k := by omega
    simp [Try.f25, ht25, h1, h2]
theorem rvalue_in {k : Nat} (hl : fs.length ≤ 256) (hk : k < fs.length) : S.f 25 [.ptr 0 0 0 0, .d (.int .i64 (k + 1))] (AO fs s) = some (.ret (.d (.flt fs[k])), AO fs s) := by
  refine SL_enter Try.func25 rfl ht25 rfl ?_
  have h1 : ¬ ((k:Int) + 1 < 1) := by omega
  have h2 : ¬ ((fs.length : Int) < (k:Int) + 1) := by omega
  have hw : IntKind.i64.wrap (k : Int) = k := wrap_i64 (by omega) (by omega)
  simp [Try.f25, ht25, h1, h2, hw, hk]
theorem rput_out {k : Int} {b : Nat} (hk : ¬ (1 ≤ k ∧ k ≤ fs.length)) : S.f 18 [.ptr 0 0 0 0, .d (.int .i64 k), .d (.flt b)] (AO fs s) = some (.ret (.d (.int .i64 1)), AO fs s) := by
  refine SL_enter Try.func18 rfl ht18 rfl ?_
  by_cases h1 : k < 1
  · simp [Try.f18, ht18, h1]
  · have h2 : (fs.length : Int) < k := by omega
    simp [Try.f18, ht18, h1, h2]
theorem rput_bad {k b : Nat} (hk : k < fs.length) (hb : FloatKind.f64.format.order b b ≠ some .eq) : S.f 18 [.ptr 0 0 0 0, .d (.int .i64 (k + 1)), .d (.flt b)] (AO fs s) = some (.ret (.d (.int .i64 8)), AO fs s) := by
  refine SL_enter Try.func18 rfl ht18 rfl ?_
  have h1 : ¬ ((k:Int) + 1 < 1) := by omega
  have h2 : ¬ ((fs.length : Int) < (k:Int) + 1) := by omega
  simp [Try.f18, ht18, h1, h2, rcheck_ok, hb]
theorem rput_ok {k b : Nat} (hl : fs.length ≤ 256) (hk : k < fs.length) (hb : FloatKind.f64.format.order b b = some .eq) : S.f 18 [.ptr 0 0 0 0, .d (.int .i64 (k + 1)), .d (.flt b)] (AO fs s) = some (.ret (.d (.int .i64 0)), RO fs (fs.set k b) s) := by
  refine SL_enter Try.func18 rfl ht18 rfl ?_
  have h1 : ¬ ((k:Int) + 1 < 1) := by omega
  have h2 : ¬ ((fs.length : Int) < (k:Int) + 1) := by omega
  have hw : IntKind.i64.wrap (k : Int) = k := wrap_i64 (by omega) (by omega)
  have hsz : fs.length * 8 ≤ 140737488355328 := by omega
  simp [Try.f18, ht18, h1, h2, rcheck_ok, hb, hw, hk, hsz, List.take_of_length_le]
end
end Go.VL.Try
set_option maxRecDepth 10000
namespace Go.VL.Try
open Go Go.VL Go.Proofs
variable {fs : List Nat} {s : Nat}
theorem rscale_loop {n : Nat} : ∀ (k q : Nat) (ys : List Nat), ys.length ≤ 256 → q + k = ys.length → (∀ i, q ≤ i → ∀ f, ys[i]? = some f → FloatKind.f64.format.mul f 3256102530588868608 = some (lowG f)) →
    ∃ env, env 0 = .ptr 0 0 0 0 ∧ env 2 = .d (.flt 3256102530588868608) ∧ env 4 = .sl 2 0 0 ys.length ∧
    Lb Try.prog HT 39 2 (lpc Try.prog 39 0) ⟨mkE [(0, .ptr 0 0 0 0), (2, .d (.flt 3256102530588868608)), (4, .sl 2 0 0 ys.length), (5, .d (.int .i64 q))], [], [.box true 0 [.sl 1 0 0 n, .d (.flt s)], .arr true 0 1 (fs.map fun v => [.flt v]), .arr true 0 1 (ys.map fun v => [.flt v])]⟩ =
    some (.exit 0, ⟨env, [], [.box true 0 [.sl 1 0 0 n, .d (.flt s)], .arr true 0 1 (fs.map fun v => [.flt v]), .arr true 0 1 ((low q ys).map fun v => [.flt v])]⟩) := by
  intro k
  induction k with
  | zero =>
    intro q ys hl hq hm
    have hq : q = ys.length := by omega
    subst hq
    refine ⟨_, ?_, ?_, ?_, by rw [Lb_lp Try.func39]; simp [lpd, loopsIn, Try.f39, low_end]; rfl⟩ <;> simp
  | succ k ih =>
    intro q ys hl hq hm
    have hlt : q < ys.length := by omega
    have hw : IntKind.i64.wrap ((q : Int) + 1) = q + 1 := wrap_i64 (by omega) (by omega)
    have hx := hm q (Nat.le_refl _) _ (List.getElem?_eq_getElem hlt)
    obtain ⟨env, e0, e2, e4, ih⟩ := ih (q + 1) (ys.set q (lowG ys[q])) (by simpa using hl) (by simp; omega) (LowOk.set hm _)
    refine ⟨env, e0, e2, by simpa using e4, ?_⟩
    rw [low_step hlt] at ih
    rw [Lb_lp Try.func39]
    simp [lpd, loopsIn, Try.f39, ht39, L39, hlt, hw, hx]
    simp [low] at ih ⊢
    exact ih
theorem rscale_ok (h : WF fs s) : S.f 39 [.ptr 0 0 0 0] (AO fs s) = some (.ret (.tup []), RO fs (fs.map lowG) (lowG s)) := by
  refine SL_enter Try.func39 rfl ht39 rfl ?_
  have hl := h.len
  have hsz : fs.length * 8 ≤ 140737488355328 := by omega
  obtain ⟨env, e0, e2, e4, hloop⟩ := rscale_loop (fs := fs) (s := s) (n := fs.length) fs.length 0 fs hl (by simp) (fun i _ f hf => (low_ok (h.ok f (List.mem_of_getElem? hf))).1)
  have hs := (low_le (s := s) (by have := h.step; unfold fB; omega)).1
  simp [low] at hloop
  simp [Try.f39, ht39, L39, parse_small, hsz, List.take_of_length_le, hloop, e0, e2, e4, hs]
theorem rdecay_up (h : WF fs s) (hb : big (growG s) = false) : S.f 21 [.ptr 0 0 0 0] (AO fs s) = some (.ret (.tup []), AO fs (growG s)) := by
  refine SL_enter Try.func21 rfl ht21 rfl ?_
  obtain ⟨h1, h2⟩ := grow_le h.step
  have hb' : ¬ FloatKind.f64.format.order (growG s) 5958262307011166208 = some .gt := by simpa [big] using hb
  simp [Try.f21, ht21, T21, h1, most_ok, hb']
theorem rdecay_low (h : WF fs s) (hb : big (growG s) = true) : S.f 21 [.ptr 0 0 0 0] (AO fs s) = some (.ret (.tup []), RO fs (fs.map lowG) (lowG (growG s))) := by
  refine SL_enter Try.func21 rfl ht21 rfl ?_
  obtain ⟨h1, h2⟩ := grow_le h.step
  have hb' : FloatKind.f64.format.order (growG s) 5958262307011166208 = some .gt := by simpa [big] using hb
  have hl := h.len
  have hsz : fs.length * 8 ≤ 140737488355328 := by omega
  have hsc : S.f 39 [.ptr 0 0 0 0] (AO fs (growG s)) = some (.ret (.tup []), RO fs (fs.map lowG) (lowG (growG s))) := by
    refine SL_enter Try.func39 rfl ht39 rfl ?_
    obtain ⟨env, e0, e2, e4, hloop⟩ := rscale_loop (fs := fs) (s := growG s) (n := fs.length) fs.length 0 fs hl (by simp) (fun i _ f hf => (low_ok (h.ok f (List.mem_of_getElem? hf))).1)
    have hs := (low_le h2).1
    simp [low] at hloop
    simp [Try.f39, ht39, L39, parse_small, hsz, List.take_of_length_le, hloop, e0, e2, e4, hs]
  simp [AO] at hsc
  simp [Try.f21, ht21, T21, h1, most_ok, hb', hsc]
theorem rbump_out {k : Int} (hk : ¬ (1 ≤ k ∧ k ≤ fs.length)) : S.f 19 [.ptr 0 0 0 0, .d (.int .i64 k)] (AO fs s) = some (.ret (.d (.int .i64 1)), AO fs s) := by
  refine SL_enter Try.func19 rfl ht19 rfl ?_
  by_cases h1 : k < 1
  · simp [Try.f19, ht19, h1]
  · have h2 : (fs.length : Int) < k := by omega
    simp [Try.f19, ht19, h1, h2]
theorem rbump_f {k : Nat} (h : WF fs s) (hk : k < fs.length) : S.f 19 [.ptr 0 0 0 0, .d (.int .i64 (k + 1))] (AO fs s) = some (.ret (.d (.int .i64 0)), RO fs (bumpF k (fs, s)).1 (bumpF k (fs, s)).2) := by
  have hg : fs.getD k 0 = fs[k] := by simp [List.getD, hk]
  obtain ⟨h1, h2, h3⟩ := addG_ok (h.ok _ (List.getElem_mem hk)) h.step
  have he := eq_self h3
  have hl := h.len
  refine SL_enter Try.func19 rfl ht19 rfl ?_
  have k1 : ¬ ((k:Int) + 1 < 1) := by omega
  have k2 : ¬ ((fs.length : Int) < (k:Int) + 1) := by omega
  have hw' : IntKind.i64.wrap (k : Int) = k := wrap_i64 (by omega) (by omega)
  have hsz : fs.length * 8 ≤ 140737488355328 := by omega
  by_cases hb : big (addG fs[k] s) = true
  · have hb' : FloatKind.f64.format.order (addG fs[k] s) 5958262307011166208 = some .gt := by simpa [big] using hb
    have hw := h.set k _ h2 h3
    have hsc := rscale_ok hw
    have hbf : bumpF k (fs, s) = ((fs.set k (addG fs[k] s)).map lowG, lowG s) := by unfold bumpF; simp only [hg]; rw [if_pos hb]
    simp [AO] at hsc
    rw [hbf]
    simp [Try.f19, ht19, T19, k1, k2, hw', hk, h1, he, hb', hsc, most_ok, hsz, List.take_of_length_le]
  · have hb' : ¬ FloatKind.f64.format.order (addG fs[k] s) 5958262307011166208 = some .gt := by simpa [big] using hb
    have hbf : bumpF k (fs, s) = (fs.set k (addG fs[k] s), s) := by unfold bumpF; simp only [hg]; rw [if_neg hb]
    rw [hbf]
    simp [Try.f19, ht19, T19, k1, k2, hw', hk, h1, he, hb', most_ok, hsz, List.take_of_length_le]
end Go.VL.Try
set_option maxRecDepth 10000
namespace Go.VL.Try
open Go Go.VL Go.Proofs
theorem clone_ok {fs : List Nat} (hl : fs.length ≤ 256) : S.f 40 [.d (.fz (fs.map fun v => [.flt v]))] [] = some (.ret (.sl 0 0 0 fs.length), [.arr true 0 1 (fs.map fun v => [.flt v])]) := by
  cases fs with
  | nil =>
    refine SL_nil Try.func40 rfl ht40 rfl ?_ ?_ ?_
    · simp [Try.f40, ht40]
    · simp [Try.f40, ht40]
    · rfl
  | cons a fs =>
    refine SL_enter Try.func40 rfl ht40 rfl ?_
    have hsz : (fs.length + 1) * 8 ≤ 140737488355328 := by simp at hl; omega
    simp [Try.f40, ht40, hsz]
theorem twin_ok {fs : List Nat} {s : Nat} (hl : fs.length ≤ 256) : S.f 22 [.ptr 0 0 0 0] (AO fs s) = some (.ret (.ptr 2 0 0 0), [.box true 0 [.sl 1 0 0 fs.length, .d (.flt s)], .arr true 0 1 (fs.map fun v => [.flt v]), .box true 0 [.sl 3 0 0 fs.length, .d (.flt s)], .arr true 0 1 (fs.map fun v => [.flt v])]) := by
  refine SL_enter Try.func22 rfl ht22 rfl ?_
  have hc := clone_ok hl
  simp [Try.f22, ht22, T22, hc, List.take_of_length_le]
theorem wbits_ok {a : Nat} (ha : fok a) : S.f 24 [.d (.flt a), .d (.flt a)] [] = some (.ret (.d (.bool true)), []) := by
  refine SL_enter Try.func24 rfl ht24 rfl ?_
  simp [Try.f24, ht24, eq_self ha, bits_ok]
theorem value_f {fs : List Nat} {s : Nat} {k : Int} (h : WF fs s) : ∃ v, fok v ∧ S.f 10 [.ptr 0 0 0 0, .d (.int .i64 k)] (AO fs s) = some (.ret (.d (.flt v)), AO fs s) ∧ S.f 25 [.ptr 0 0 0 0, .d (.int .i64 k)] (AO fs s) = some (.ret (.d (.flt v)), AO fs s) := by
  by_cases hk : 1 ≤ k ∧ k ≤ fs.length
  · obtain ⟨j, rfl⟩ : ∃ j : Nat, k = j + 1 := ⟨(k - 1).toNat, by omega⟩
    have hj : j < fs.length := by omega
    exact ⟨fs[j], h.ok _ (List.getElem_mem hj), value_in h.len hj, rvalue_in h.len hj⟩
  · exact ⟨0, by decide, value_out hk, rvalue_out hk⟩
/-- Objects: two Acts alike. -/
abbrev PO (fs : List Nat) (s : Nat) : St := [.box true 0 [.sl 2 0 0 fs.length, .d (.flt s)], .box true 0 [.sl 3 0 0 fs.length, .d (.flt s)], .arr true 0 1 (fs.map fun v => [.flt v]), .arr true 0 1 (fs.map fun v => [.flt v])]
theorem same_loop {fs : List Nat} {s : Nat} (h : WF fs s) : ∀ (k v : Nat), v + k = fs.length + 2 → ∃ env,
    Lb Try.prog HT 26 4 (lpc Try.prog 26 0) ⟨mkE [(0, .ptr 0 0 0 0), (1, .ptr 1 0 0 0), (5, .d (.int .i64 v))], [], PO fs s⟩ = some (.exit 0, ⟨env, [], PO fs s⟩) := by
  intro k
  have hl := h.len
  have hwn : IntKind.i64.wrap ((fs.length : Int) + 1) = fs.length + 1 := wrap_i64 (by omega) (by omega)
  induction k with
  | zero =>
    intro v hv
    have hle : ¬ ((v : Int) ≤ fs.length + 1) := by omega
    refine ⟨_, by rw [Lb_lp Try.func26]; simp [PO, lpd, loopsIn, Try.f26, hwn, hle]; rfl⟩
  | succ k ih =>
    intro v hv
    have hle : (v : Int) ≤ fs.length + 1 := by omega
    have hw : IntKind.i64.wrap ((v : Int) + 1) = v + 1 := wrap_i64 (by omega) (by omega)
    obtain ⟨env, ih⟩ := ih (v + 1) (by omega)
    obtain ⟨f, h1, h2, h3⟩ := value_f (k := v) h
    have h4 := wbits_ok h1
    refine ⟨env, ?_⟩
    rw [Lb_lp Try.func26]
    simp [AO] at h2 h3
    simp [PO, lpd, loopsIn, Try.f26, ht26, L26, hwn, hle, hw, h2, h3, h4]
    simp [PO] at ih
    exact ih
theorem same_ok {fs : List Nat} {s : Nat} (h : WF fs s) : S.f 26 [.ptr 0 0 0 0, .ptr 1 0 0 0] (PO fs s) = some (.ret (.d (.bool true)), PO fs s) := by
  refine SL_enter Try.func26 rfl ht26 rfl ?_
  obtain ⟨env, hloop⟩ := same_loop h (fs.length + 2) 0 (by omega)
  have hs := step_ok (fs := fs) (inc := s)
  have hb := wbits_ok (a := s) (fok_small (by have := h.step; omega))
  simp [AO, PO] at hs hloop
  simp [PO, Try.f26, ht26, T26, L26, hs, hb, hloop]
end Go.VL.Try
set_option maxRecDepth 10000
namespace Go.VL.Try
open Go Go.VL Go.Proofs
variable {fs : List Nat} {s : Nat} {nots : List Bool}
theorem rtop_loop (h : WF fs s) : ∀ (k q : Nat), q + k = fs.length → ∃ env, env 6 = .d (.int .i64 (topTo fs nots fs.length)) ∧
    Lb Try.prog HT 23 2 (lpc Try.prog 23 0) ⟨mkE [(0, .ptr 0 0 0 0), (1, .d (.fz (nots.map fun b => [.bool b]))), (6, .d (.int .i64 (topTo fs nots q))), (7, .d (.int .i64 q))], [], AO fs s⟩ = some (.exit 0, ⟨env, [], AO fs s⟩) := by
  have hl := h.len
  intro k
  induction k with
  | zero =>
    intro q hq
    have hq : q = fs.length := by omega
    subst hq
    refine ⟨_, ?_, by rw [Lb_lp Try.func23]; simp [lpd, loopsIn, Try.f23]; rfl⟩
    simp
  | succ k ih =>
    intro q hq
    have hlt : q < fs.length := by omega
    have hw : IntKind.i64.wrap ((q : Int) + 1) = q + 1 := wrap_i64 (by omega) (by omega)
    have hb := topTo_lt (fs := fs) (nots := nots) q
    have hnext := show topTo fs nots (q + 1) = topStep fs nots (topTo fs nots q) q from rfl
    obtain ⟨env, e6, ih⟩ := ih (q + 1) (by omega)
    refine ⟨env, e6, ?_⟩
    rw [hnext] at ih
    generalize hbest : topTo fs nots q = best at *
    have hff := h.lt _ (List.getElem_mem hlt)
    have hq0 : ¬ ((q : Int) < 0) := by omega
    rw [Lb_lp Try.func23]
    by_cases hneg : best < 0
    · by_cases hlq : q < nots.length
      · cases hv : nots[q] with
        | true =>
          simp [lpd, loopsIn, Try.f23, ht23, L23, T23, hlt, hw, hneg, hlq, hv]
          simp [AO, topStep, hneg, hlq, hv] at ih ⊢
          exact ih
        | false =>
          simp [lpd, loopsIn, Try.f23, ht23, L23, T23, hlt, hw, hneg, hlq, hv]
          simp [AO, topStep, hneg, hlq, hv] at ih ⊢
          exact ih
      · simp [lpd, loopsIn, Try.f23, ht23, L23, T23, hlt, hw, hneg, hlq]
        simp [AO, topStep, hneg, hlq] at ih ⊢
        exact ih
    · obtain ⟨b, rfl⟩ : ∃ b : Nat, best = b := ⟨best.toNat, by omega⟩
      have hbn : b < fs.length := by omega
      have hgf := h.lt _ (List.getElem_mem hbn)
      have hcmp := rcmp_ok hff hgf
      have hsame := cmp_same hff hgf (h.ok _ (List.getElem_mem hlt)) (h.ok _ (List.getElem_mem hbn))
      have hbneg : ¬ ((b : Int) < 0) := by omega
      have hbl : (b : Int) < fs.length := by omega
      by_cases hc : 0 < wcmp fs[q] fs[b]
      · have hc' := hsame.2 hc
        by_cases hlq : q < nots.length
        · cases hv : nots[q] with
          | true =>
            simp [lpd, loopsIn, Try.f23, ht23, L23, T23, hlt, hw, hlq, hv]
            simp [AO, topStep, hlq, hv] at ih ⊢
            exact ih
          | false =>
            simp [lpd, loopsIn, Try.f23, ht23, L23, T23, hlt, hw, hbneg, hlq, hv, hbn, hbl, hcmp, hc']
            simp [AO, topStep, hbneg, hlq, hv, hlt, hbn, hc] at ih ⊢
            exact ih
        · simp [lpd, loopsIn, Try.f23, ht23, L23, T23, hlt, hw, hbneg, hlq, hbn, hbl, hcmp, hc']
          simp [AO, topStep, hbneg, hlq, hlt, hbn, hc] at ih ⊢
          exact ih
      · have hc' : ¬ 0 < rcmp fs[q] fs[b] := fun h => hc (hsame.1 h)
        by_cases hlq : q < nots.length
        · cases hv : nots[q] with
          | true =>
            simp [lpd, loopsIn, Try.f23, ht23, L23, T23, hlt, hw, hlq, hv]
            simp [AO, topStep, hlq, hv] at ih ⊢
            exact ih
          | false =>
            simp [lpd, loopsIn, Try.f23, ht23, L23, T23, hlt, hw, hbneg, hlq, hv, hbn, hbl, hcmp, hc']
            simp [AO, topStep, hbneg, hlq, hv, hlt, hbn, hc] at ih ⊢
            exact ih
        · simp [lpd, loopsIn, Try.f23, ht23, L23, T23, hlt, hw, hbneg, hlq, hbn, hbl, hcmp, hc']
          simp [AO, topStep, hbneg, hlq, hlt, hbn, hc] at ih ⊢
          exact ih
theorem rtop_ok (h : WF fs s) : S.f 23 [.ptr 0 0 0 0, .d (.fz (nots.map fun b => [.bool b]))] (AO fs s) =
    some (.ret (.tup [.d (.int .i64 (topTo fs nots fs.length + 1)), .d (.bool (decide (0 ≤ topTo fs nots fs.length)))]), AO fs s) := by
  refine SL_enter Try.func23 rfl ht23 rfl ?_
  have hl := h.len
  have hb := topTo_lt (fs := fs) (nots := nots) fs.length
  obtain ⟨env, e6, hloop⟩ := rtop_loop (nots := nots) h fs.length 0 (by simp)
  simp [AO, topTo] at hloop
  by_cases hneg : topTo fs nots fs.length < 0
  · have : topTo fs nots fs.length = -1 := by omega
    rw [this] at e6
    simp [Try.f23, ht23, L23, hloop, e6, this]
  · have hw : IntKind.i64.wrap (topTo fs nots fs.length + 1) = topTo fs nots fs.length + 1 := wrap_i64 (by omega) (by omega)
    have h0 : 0 ≤ topTo fs nots fs.length := by omega
    simp [Try.f23, ht23, L23, hloop, e6, hneg, hw, h0]
end Go.VL.Try
