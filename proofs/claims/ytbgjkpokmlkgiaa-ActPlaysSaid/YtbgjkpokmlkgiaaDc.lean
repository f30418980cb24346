/- ActPlays returns true, whatever the input; its arguments read as they did: no condition. -/
import Derived.Test.YtbgjkpokmlkgiaaDb
set_option maxRecDepth 10000
namespace Go.VL.Try
open Go Go.VL Go.Proofs
/-- A call, as the law's argument has it. -/
structure PC where
  op : Int
  v : Int
  bits : Nat
  n : Nat
  nots : List Bool
def PC.enc (c : PC) : List VL.D := [.int .i64 c.op, .int .i64 c.v, .int .u64 c.bits, .int .u8 c.n, .fz (c.nots.map fun b => [.bool b])]
theorem tail_f {fs : List Nat} {s : Nat} (h : WF fs s) (v : Int) : ∃ f, S.f 10 [.ptr 0 0 0 0, .d (.int .i64 v)] (AO fs s) = some (.ret (.d (.flt f)), AO fs s) ∧ S.f 25 [.ptr 0 0 0 0, .d (.int .i64 v)] (AO fs s) = some (.ret (.d (.flt f)), AO fs s) ∧
    S.f 24 [.d (.flt f), .d (.flt f)] [] = some (.ret (.d (.bool true)), []) ∧ S.f 12 [.ptr 0 0 0 0] (AO fs s) = some (.ret (.d (.flt s)), AO fs s) ∧ S.f 24 [.d (.flt s), .d (.flt s)] [] = some (.ret (.d (.bool true)), []) := by
  obtain ⟨f, h1, h2, h3⟩ := value_f (k := v) h
  exact ⟨f, h2, h3, wbits_ok h1, step_ok, wbits_ok (fok_small (by have := h.step; omega))⟩
/-- Objects: two Acts alike, and a call. -/
abbrev QO (fs : List Nat) (s : Nat) (c : PC) : St := [.box true 0 [.sl 3 0 0 fs.length, .d (.flt s)], .box true 0 [.sl 4 0 0 fs.length, .d (.flt s)], .box true 0 (c.enc.map .d), .arr true 0 1 (fs.map fun v => [.flt v]), .arr true 0 1 (fs.map fun v => [.flt v])]
theorem decay_loop (l : List PC) (c : PC) (hc : c.n < 256) (i : Nat) : ∀ (k j : Nat) (fs : List Nat) (s : Nat), WF fs s → j + k = c.n → ∃ env fs' s', WF fs' s' ∧ env 1 = .d (.fz (l.map PC.enc)) ∧ env 5 = .ptr 0 0 0 0 ∧ env 7 = .ptr 1 0 0 0 ∧ env 9 = .d (.int .i64 i) ∧ env 10 = .ptr 2 0 0 0 ∧
    Lb Try.prog HT 5 0 (lpc Try.prog 5 1) ⟨mkE [(1, .d (.fz (l.map PC.enc))), (5, .ptr 0 0 0 0), (7, .ptr 1 0 0 0), (9, .d (.int .i64 i)), (10, .ptr 2 0 0 0), (12, .d (.int .i64 j))], [], QO fs s c⟩ = some (.exit 3, ⟨env, [], QO fs' s' c⟩) := by
  intro k
  have hwc : IntKind.i64.wrap (c.n : Int) = c.n := wrap_i64 (by omega) (by omega)
  induction k with
  | zero =>
    intro j fs s h hj
    have hj : j = c.n := by omega
    subst hj
    refine ⟨_, fs, s, h, ?_, ?_, ?_, ?_, ?_, by rw [Lb_lp Try.func5]; simp [QO, PC.enc, lpd, loopsIn, Try.f5, hwc]; rfl⟩ <;> simp
  | succ k ih =>
    intro j fs s h hj
    have hlt : (j : Int) < c.n := by omega
    have hw : IntKind.i64.wrap ((j : Int) + 1) = j + 1 := wrap_i64 (by omega) (by omega)
    have hd := decay_f h
    obtain ⟨env, fs', s', h', e1, e5, e7, e9, e10, ih⟩ := ih (j + 1) _ _ h.dec (by omega)
    refine ⟨env, fs', s', h', e1, e5, e7, e9, e10, ?_⟩
    rw [Lb_lp Try.func5]
    cases hb : big (growG s) with
    | true =>
      have hr := rdecay_low h hb
      have hdf : decF (fs, s) = (fs.map lowG, lowG (growG s)) := by unfold decF; simp [hb]
      rw [hdf] at hd ih
      simp [AO] at hd hr
      simp [QO, PC.enc, lpd, loopsIn, Try.f5, ht5, L5, hwc, hlt, hw, hd, hr]
      simp [QO, PC.enc] at ih
      exact ih
    | false =>
      have hr := rdecay_up h hb
      have hdf : decF (fs, s) = (fs, growG s) := by unfold decF; simp [hb]
      rw [hdf] at hd ih
      simp [AO] at hd hr
      simp [QO, PC.enc, lpd, loopsIn, Try.f5, ht5, L5, hwc, hlt, hw, hd, hr]
      simp [QO, PC.enc] at ih
      exact ih
end Go.VL.Try
set_option maxRecDepth 10000
namespace Go.VL.Try
open Go Go.VL Go.Proofs
abbrev HD (l : List PC) (i : Nat) (fs : List Nat) (s : Nat) : VS := ⟨mkE [(1, .d (.fz (l.map PC.enc))), (5, .ptr 0 0 0 0), (7, .ptr 1 0 0 0), (9, .d (.int .i64 i))], [], PO fs s⟩
set_option maxHeartbeats 4000000 in
theorem plays_step (l : List PC) (hl : l.length ≤ 60) (i : Nat) (hlt : i < l.length) (hv : l[i].bits < 18446744073709551616) (hn : l[i].n < 256) (h300 : l[i].nots.length ≤ 300) {fs : List Nat} {s : Nat} (h : WF fs s) :
    ∃ fs' s', WF fs' s' ∧ Lb Try.prog HT 5 0 (lpc Try.prog 5 0) (HD l i fs s) = Lb Try.prog HT 5 0 (lpc Try.prog 5 0) (HD l (i + 1) fs' s') := by
  obtain ⟨c, hc⟩ : ∃ c, c = l[i] := ⟨_, rfl⟩
  rw [← hc] at hv hn h300
  have hel : (l.map PC.enc)[i]? = some c.enc := by simp [hlt, hc]
  have hw : IntKind.i64.wrap ((i : Int) + 1) = i + 1 := wrap_i64 (by omega) (by omega)
  have h3 : ¬ 300 < (c.nots.length : Int) := by omega
  have hlen := h.len
  have hil : (i : Int) < l.length := by omega
  by_cases o1 : c.op = 1
  · -- a put
    by_cases hk : 1 ≤ c.v ∧ c.v ≤ fs.length
    · obtain ⟨j, hj⟩ : ∃ j : Nat, c.v = j + 1 := ⟨(c.v - 1).toNat, by omega⟩
      have hjl : j < fs.length := by omega
      by_cases hnan : FloatKind.f64.format.order c.bits c.bits = some .eq
      · have hok : fok c.bits := by
          by_cases ho : fok c.bits
          · exact ho
          · rw [order_nan (.inl ho)] at hnan; simp at hnan
        have h' := h.set j c.bits hv hok
        obtain ⟨f, t1, t2, t3, t4, t5⟩ := tail_f h' c.v
        have p1 := put_ok (fs := fs) (inc := s) hlen hjl hnan
        have p2 := rput_ok (fs := fs) (s := s) hlen hjl hnan
        refine ⟨_, _, h', ?_⟩
        rw [hj] at t1 t2
        simp [AO] at p1 p2 t1 t2 t4
        unfold HD
        rw [Lb_lp Try.func5]
        simp [PO, PC.enc, lpd, loopsIn, Try.f5, ht5, L5, T5, hlt, hil, hw, ← hc, h3, o1, hj, from_ok, p1, p2, t1, t2, t3, t4, t5]
      · obtain ⟨f, t1, t2, t3, t4, t5⟩ := tail_f h c.v
        have p1 := put_bad (fs := fs) (inc := s) hlen hjl hnan
        have p2 := rput_bad (fs := fs) (s := s) hjl hnan
        refine ⟨_, _, h, ?_⟩
        rw [hj] at t1 t2
        simp [AO] at p1 p2 t1 t2 t4
        unfold HD
        rw [Lb_lp Try.func5]
        simp [PO, PC.enc, lpd, loopsIn, Try.f5, ht5, L5, T5, hlt, hil, hw, ← hc, h3, o1, hj, from_ok, p1, p2, t1, t2, t3, t4, t5]
    · obtain ⟨f, t1, t2, t3, t4, t5⟩ := tail_f h c.v
      have p1 := put_out (fs := fs) (inc := s) (b := c.bits) hk
      have p2 := rput_out (fs := fs) (s := s) (b := c.bits) hk
      refine ⟨_, _, h, ?_⟩
      simp [AO] at p1 p2 t1 t2 t4
      unfold HD
      rw [Lb_lp Try.func5]
      simp [PO, PC.enc, lpd, loopsIn, Try.f5, ht5, L5, T5, hlt, hil, hw, ← hc, h3, o1, from_ok, p1, p2, t1, t2, t3, t4, t5]
  by_cases o2 : c.op = 2
  · -- a bump
    by_cases hk : 1 ≤ c.v ∧ c.v ≤ fs.length
    · obtain ⟨j, hj⟩ : ∃ j : Nat, c.v = j + 1 := ⟨(c.v - 1).toNat, by omega⟩
      have hjl : j < fs.length := by omega
      have h' := h.bump hjl
      obtain ⟨f, t1, t2, t3, t4, t5⟩ := tail_f h' c.v
      have p1 := bump_f h hjl
      have p2 := rbump_f h hjl
      refine ⟨_, _, h', ?_⟩
      rw [hj] at t1 t2
      generalize (bumpF j (fs, s)).1 = fs' at *
      generalize (bumpF j (fs, s)).2 = s' at *
      simp [AO] at p1 p2 t1 t2 t4
      unfold HD
      rw [Lb_lp Try.func5]
      simp [PO, PC.enc, lpd, loopsIn, Try.f5, ht5, L5, T5, hlt, hil, hw, ← hc, h3, o2, hj, p1, p2, t1, t2, t3, t4, t5]
    · obtain ⟨f, t1, t2, t3, t4, t5⟩ := tail_f h c.v
      have p1 := bump_out (fs := fs) (inc := s) hk
      have p2 := rbump_out (fs := fs) (s := s) hk
      refine ⟨_, _, h, ?_⟩
      simp [AO] at p1 p2 t1 t2 t4
      unfold HD
      rw [Lb_lp Try.func5]
      simp [PO, PC.enc, lpd, loopsIn, Try.f5, ht5, L5, T5, hlt, hil, hw, ← hc, h3, o2, p1, p2, t1, t2, t3, t4, t5]
  by_cases o3 : c.op = 3
  · -- decays
    obtain ⟨env, fs', s', h', e1, e5, e7, e9, e10, hloop⟩ := decay_loop l c hn i c.n 0 fs s h (by omega)
    obtain ⟨f, t1, t2, t3, t4, t5⟩ := tail_f h' c.v
    refine ⟨fs', s', h', ?_⟩
    simp [AO] at t1 t2 t4
    simp [QO, PC.enc, o3] at hloop
    unfold HD
    rw [Lb_lp Try.func5]
    simp [PO, PC.enc, lpd, loopsIn, Try.f5, ht5, L5, T5, hlt, hil, hw, ← hc, h3, o3, hloop, e1, e5, e7, e9, e10, t1, t2, t3, t4, t5]
  by_cases o4 : c.op = 4
  · -- a twin
    obtain ⟨f, t1, t2, t3, t4, t5⟩ := tail_f h c.v
    have tw := twin_ok (fs := fs) (s := s) hlen
    by_cases hk : 1 ≤ c.v ∧ c.v ≤ fs.length
    · obtain ⟨j, hj⟩ : ∃ j : Nat, c.v = j + 1 := ⟨(c.v - 1).toNat, by omega⟩
      have hjl : j < fs.length := by omega
      have h' := h.bump hjl
      have p1 := bump_f h hjl
      have p2 := decay_f h'
      refine ⟨fs, s, h, ?_⟩
      rw [hj] at t1 t2
      generalize (bumpF j (fs, s)).1 = fs' at *
      generalize (bumpF j (fs, s)).2 = s' at *
      generalize (decF (fs', s')).1 = fs2 at *
      generalize (decF (fs', s')).2 = s2 at *
      simp [AO] at p1 p2 t1 t2 t4 tw
      unfold HD
      rw [Lb_lp Try.func5]
      simp [PO, PC.enc, lpd, loopsIn, Try.f5, ht5, L5, T5, hlt, hil, hw, ← hc, h3, o4, hj, tw, p1, p2, t1, t2, t3, t4, t5]
    · have p1 := bump_out (fs := fs) (inc := s) hk
      have p2 := decay_f h
      refine ⟨fs, s, h, ?_⟩
      generalize (decF (fs, s)).1 = fs2 at *
      generalize (decF (fs, s)).2 = s2 at *
      simp [AO] at p1 p2 t1 t2 t4 tw
      unfold HD
      rw [Lb_lp Try.func5]
      simp [PO, PC.enc, lpd, loopsIn, Try.f5, ht5, L5, T5, hlt, hil, hw, ← hc, h3, o4, tw, p1, p2, t1, t2, t3, t4, t5]
  by_cases o5 : c.op = 5
  · -- who is next
    obtain ⟨f, t1, t2, t3, t4, t5⟩ := tail_f h c.v
    have p1 := top_ok (fs := fs) (inc := s) (nots := c.nots) hlen h.lt
    have p2 := rtop_ok (nots := c.nots) h
    refine ⟨fs, s, h, ?_⟩
    simp [AO] at p1 p2 t1 t2 t4
    unfold HD
    rw [Lb_lp Try.func5]
    simp [PO, PC.enc, lpd, loopsIn, Try.f5, ht5, L5, T5, hlt, hil, hw, ← hc, h3, o5, p1, p2, t1, t2, t3, t4, t5]
  · obtain ⟨f, t1, t2, t3, t4, t5⟩ := tail_f h c.v
    refine ⟨fs, s, h, ?_⟩
    simp [AO] at t1 t2 t4
    unfold HD
    rw [Lb_lp Try.func5]
    simp [PO, PC.enc, lpd, loopsIn, Try.f5, ht5, L5, T5, hlt, hil, hw, ← hc, h3, o1, o2, o3, o4, o5, t1, t2, t3, t4, t5]
end Go.VL.Try
