/- E-logic, part J: a law out of the oracle; rules of rewriting. -/
import Derived.Test.YtbgjkpokmlkgiaaEb
import Derived.Test.YtbgjkpokmlkgiaaVe
namespace Go.VL
open Go

section
variable {P : Program} {H : Hints} {S : Ora} {m : Nat} {s : VS} {g : FuncId}

/-- What the oracle tells of data, is so. -/
theorem pfun_of_SL (hH : HOK P H) {g : FuncId} {ds : List VL.D} {x : VL.D} (h : (SL P H).f g (ds.map .d) [] = some (.ret (.d x), [])) : PFun P g ds (.ret [.d x]) := by
  intro w vals Z hZ hv
  have hb : WR (base0 w Z) (fun _ => none) [] w := by
    refine ⟨⟨by simp, by simp⟩, Nat.le_refl _, fun _ _ _ => rfl, fun _ h => .inl h, Ext.refl _ _, ⟨rfl, rfl, rfl⟩, Plc.refl _ _ _⟩
  have hv' : VRelL (fun _ => none) [] w (Zc (base0 w Z) (fun _ => none) [] w) (ds.map .d) vals := by
    refine ⟨by simpa using hv.1, fun j x v hx hu => ?_⟩
    rw [List.getElem?_map] at hx
    cases hc : ds[j]? with
    | none => rw [hc] at hx; simp at hx
    | some y =>
      rw [hc] at hx; simp at hx; subst hx
      exact .d _ _ ((hv.2 j y v hc hu).mono (fun _ _ _ _ h => h) (fun b hb => ⟨.inl hb, by rintro ⟨id, o, p, h1, _⟩; simp at h1, hZ b hb⟩))
  refine ((SL_ok hH).f g _ _ _ 0 h (base0 w Z) (fun _ => none) w vals rfl hb hv').mono ?_
  rintro e w' ⟨o, σ', β', he, hm, hr⟩
  cases he
  cases e with
  | returned v => exact ⟨β', v, rfl, hm.wr, hr⟩
  | _ => exact hr.elim

def loopsIn : Code → List Code
  | .seq a b => loopsIn a ++ loopsIn b
  | .cond _ a b => loopsIn a ++ loopsIn b
  | .block _ a => loopsIn a
  | .loop a => a :: loopsIn a
  | _ => []
def nlp : Code → Nat
  | .seq a b => nlp a + nlp b
  | .cond _ a b => nlp a + nlp b
  | .block _ a => nlp a
  | .loop a => nlp a + 1
  | _ => 0
/-- The same code, each loop's body told by its place. -/
def relp (f : Nat → Code) : Code → Nat → Code
  | .seq a b, i => .seq (relp f a i) (relp f b (i + nlp a))
  | .cond c a b, i => .cond c (relp f a i) (relp f b (i + nlp a))
  | .block k a, i => .block k (relp f a i)
  | .loop _, i => .loop (f i)
  | c, _ => c
theorem loops_length : ∀ c : Code, (loopsIn c).length = nlp c := by
  intro c
  induction c with
  | seq a b iha ihb => simp [loopsIn, nlp, iha, ihb]
  | cond c a b iha ihb => simp [loopsIn, nlp, iha, ihb]
  | block k a ih => simp [loopsIn, nlp, ih]
  | loop a ih => simp [loopsIn, nlp, ih]
  | _ => rfl
theorem relp_eq {f : Nat → Code} : ∀ (c0 : Code) (i : Nat), (∀ j c, (loopsIn c0)[j]? = some c → f (i + j) = c) → relp f c0 i = c0 := by
  intro c0
  induction c0 with
  | seq a b iha ihb =>
    intro i h
    simp only [relp]
    rw [iha i (fun j c hj => h j c (by simp only [loopsIn]; rw [List.getElem?_append_left (get_lt hj)]; exact hj)),
      ihb _ (fun j c hj => by rw [Nat.add_assoc]; exact h (nlp a + j) c (by simp only [loopsIn]; rw [List.getElem?_append_right (by rw [loops_length]; omega), loops_length, Nat.add_sub_cancel_left]; exact hj))]
  | cond c a b iha ihb =>
    intro i h
    simp only [relp]
    rw [iha i (fun j c hj => h j c (by simp only [loopsIn]; rw [List.getElem?_append_left (get_lt hj)]; exact hj)),
      ihb _ (fun j c hj => by rw [Nat.add_assoc]; exact h (nlp a + j) c (by simp only [loopsIn]; rw [List.getElem?_append_right (by rw [loops_length]; omega), loops_length, Nat.add_sub_cancel_left]; exact hj))]
  | block k a ih => intro i h; simp only [relp]; rw [ih i (fun j c hj => h j c (by simpa [loopsIn] using hj))]
  | loop a ih => intro i h; simp only [relp]; rw [show f i = a from h 0 a (by simp [loopsIn])]
  | _ => intro i h; rfl
theorem loops_sub : ∀ (c0 : Code) (i : Nat) (b : Code), (loopsIn c0)[i]? = some b → ∀ j c, (loopsIn b)[j]? = some c → (loopsIn c0)[i + 1 + j]? = some c := by
  intro c0
  induction c0 with
  | seq a b iha ihb =>
    intro i c1 h j c hj
    simp only [loopsIn] at h ⊢
    rcases Nat.lt_or_ge i (loopsIn a).length with hl | hl
    · rw [List.getElem?_append_left hl] at h
      have := iha i c1 h j c hj
      rw [List.getElem?_append_left (get_lt this)]; exact this
    · rw [List.getElem?_append_right hl] at h
      have := ihb _ c1 h j c hj
      rw [List.getElem?_append_right (by omega)]
      have e : i + 1 + j - (loopsIn a).length = i - (loopsIn a).length + 1 + j := by omega
      rw [e]; exact this
  | cond c a b iha ihb =>
    intro i c1 h j c hj
    simp only [loopsIn] at h ⊢
    rcases Nat.lt_or_ge i (loopsIn a).length with hl | hl
    · rw [List.getElem?_append_left hl] at h
      have := iha i c1 h j c hj
      rw [List.getElem?_append_left (get_lt this)]; exact this
    · rw [List.getElem?_append_right hl] at h
      have := ihb _ c1 h j c hj
      rw [List.getElem?_append_right (by omega)]
      have e : i + 1 + j - (loopsIn a).length = i - (loopsIn a).length + 1 + j := by omega
      rw [e]; exact this
  | block k a ih => intro i c1 h j c hj; simp only [loopsIn] at h ⊢; exact ih i c1 h j c hj
  | loop a ih =>
    intro i c1 h j c hj
    simp only [loopsIn] at h ⊢
    cases i with
    | zero =>
      simp at h; subst h
      have e : 0 + 1 + j = j + 1 := by omega
      rw [e, List.getElem?_cons_succ]; exact hj
    | succ i =>
      rw [List.getElem?_cons_succ] at h
      have e : i + 1 + 1 + j = (i + 1 + j) + 1 := by omega
      rw [e, List.getElem?_cons_succ]; exact ih i c1 h j c hj
  | _ => intro i c1 h; simp [loopsIn] at h
/-- The body of a function's loop, by its place. -/
def lpc (P : Program) (g i : Nat) : Code := (loopsIn (((P.funcs[g]?).bind (·.body)).getD .skip)).getD i .skip
/-- The same, to be looked into. -/
def lpd (fn : Func) (i : Nat) : Code := (loopsIn (fn.body.getD .skip)).getD i .skip
theorem relp_body {fn : Func} {c : Code} (hf : P.funcs[g]? = some fn) (h : fn.body = some c) : relp (lpc P g) c 0 = c := by
  refine relp_eq c 0 fun j b hj => ?_
  unfold lpc
  rw [hf, Nat.zero_add]
  simp [h, List.getD, hj]
theorem relp_loop {fn : Func} {i : Nat} (hf : P.funcs[g]? = some fn) : relp (lpc P g) (lpd fn i) (i + 1) = lpc P g i := by
  have e : lpd fn i = lpc P g i := by unfold lpd lpc; rw [hf]; rfl
  rw [e]
  cases hi : (loopsIn (fn.body.getD .skip))[i]? with
  | none =>
    have : lpc P g i = .skip := by rw [← e]; unfold lpd; simp [List.getD, hi]
    rw [this]; rfl
  | some b =>
    have hb : lpc P g i = b := by rw [← e]; unfold lpd; simp [List.getD, hi]
    rw [hb]
    refine relp_eq b _ fun j c hj => ?_
    have := loops_sub _ i b hi j c hj
    have e' : lpd fn (i + 1 + j) = lpc P g (i + 1 + j) := by unfold lpd lpc; rw [hf]; rfl
    rw [← e']
    unfold lpd; simp [List.getD, this]

/-- A function, out of its body. -/
theorem SL_enter {fn : Func} {c : Code} {xs : List PV} {τ : St} {r : VO × St} {Q : Prop} (hf : P.funcs[g]? = some fn) (hb : fn.body = some c) (hh : H.has g = true ∧ H.ext g = none ∧ Q) (hl : Nat.ble xs.length fn.ntmps = true)
    (h : efin τ.length (H.keep g) (ebody P (SL P H) fn.results.toList (ec P H g (SL P H) τ.length (relp (lpc P g) c 0) ⟨env0 xs, [], τ⟩)) = some r) (hq : (H.nilq g && nilArg xs) = false := by rfl) : (SL P H).f g xs τ = some r := by
  rw [relp_body hf hb] at h
  refine SL_f ?_
  unfold efn
  rw [hq, if_neg (by simp)]
  unfold efn0
  rw [hh.2.1]; simp only [hf, hb]
  rw [if_pos ⟨hh.1, Nat.le_of_ble_eq_true hl⟩]; exact h
/-- A function that asks whether its argument is nil, of an empty one. -/
theorem SL_nil {fn : Func} {c : Code} {τ : St} {r : VO × St} {Q : Prop} (hf : P.funcs[g]? = some fn) (hb : fn.body = some c) (hh : H.has g = true ∧ H.ext g = none ∧ Q) (hl : Nat.ble 1 fn.ntmps = true)
    (h1 : efin τ.length (H.keep g) (ebody P (SL P H) fn.results.toList (ec P H g (SL P H) τ.length (relp (lpc P g) c 0) ⟨env0 [.nil], [], τ⟩)) = some r)
    (h2 : efin τ.length (H.keep g) (ebody P (SL P H) fn.results.toList (ec P H g (SL P H) τ.length (relp (lpc P g) c 0) ⟨env0 [.nz], [], τ⟩)) = some r) (he : resEq r r = true) (hq : H.nilq g = true := by rfl) : (SL P H).f g [.d (.fz [])] τ = some r := by
  rw [relp_body hf hb] at h1 h2
  refine SL_f ?_
  unfold efn
  rw [hq]
  simp only [nilArg, List.length_nil, beq_self_eq_true, Bool.and_self, if_true]
  have e : ∀ x, efn0 P H (SL P H) g [x] τ = efin τ.length (H.keep g) (ebody P (SL P H) fn.results.toList (ec P H g (SL P H) τ.length c ⟨env0 [x], [], τ⟩)) := by
    intro x
    unfold efn0
    rw [hh.2.1]; simp only [hf, hb]
    rw [if_pos ⟨hh.1, Nat.le_of_ble_eq_true hl⟩]
  rw [e, e, h1, h2]
  simp only [bothX, he, if_true]
theorem SL_ext {e : List PV → Option PV} {xs : List PV} {τ : St} {x : PV} (he : H.ext g = some e) (h : e xs = some x) (hq : (H.nilq g && nilArg xs) = false := by rfl) : (SL P H).f g xs τ = some (.ret x, τ) := by
  refine SL_f ?_
  unfold efn
  rw [hq, if_neg (by simp)]
  unfold efn0
  rw [he]; simp [h]
/-- A deferred function that recovers first. -/
theorem SL_catch {fn : Func} {c rest : Code} {t : Tmp} {d : DV} {τ : St} {md : Option VL.D} {r : Option VL.D × St} (hf : P.funcs[d.f]? = some fn) (hb : fn.body = some c) (hrc : recOf c = some (t, rest)) {Q : Prop} (hh : H.has d.f = true ∧ Q) (hl : Nat.ble (d.args ++ d.captured).length fn.ntmps = true) (hr : fn.results.size = 0)
    (h : dfin τ.length none (ec P H d.f (SL P H) τ.length rest ⟨putV (env0 (d.args ++ d.captured)) (some t) (recV md), [], τ⟩) = some r) : (SL P H).d d τ md = some r := by
  refine SL_d ?_
  unfold edf
  simp only [hf, hb]
  rw [if_pos ⟨hh.1, Nat.le_of_ble_eq_true hl, hr⟩, hrc]; exact h
theorem SL_defer {fn : Func} {c : Code} {d : DV} {τ : St} {md : Option VL.D} {r : Option VL.D × St} (hf : P.funcs[d.f]? = some fn) (hb : fn.body = some c) (hrc : recOf c = none) {Q : Prop} (hh : H.has d.f = true ∧ Q) (hl : Nat.ble (d.args ++ d.captured).length fn.ntmps = true) (hr : fn.results.size = 0)
    (h : dfin τ.length md (ec P H d.f (SL P H) τ.length c ⟨env0 (d.args ++ d.captured), [], τ⟩) = some r) : (SL P H).d d τ md = some r := by
  refine SL_d ?_
  unfold edf
  simp only [hf, hb]
  rw [if_pos ⟨hh.1, Nat.le_of_ble_eq_true hl, hr⟩, hrc]; exact h

/-- A function's table fits. -/
def fnsOkOf (P : Program) (H : Hints) (g : Nat) : Bool := match P.funcs[g]? with
  | some fn => match fn.body with
    | some c => !(H.has g) || (!(fn.name == "runtime.NumGoroutine") && dstOk fn.ntmps (ordT (H.tbl g)) c)
    | none => true
  | none => true
theorem fns_hok {n : Nat} (hn : P.funcs.size = n) (h : (List.range n).all (fnsOkOf P H) = true) : ∀ g fn c, P.funcs[g]? = some fn → fn.body = some c → H.has g = true → (fn.name == "runtime.NumGoroutine") = false ∧ dstOk fn.ntmps (ordT (H.tbl g)) c = true := by
  intro g fn c hf hb hh
  have hg : g < n := by rw [← hn]; exact (Array.getElem?_eq_some_iff.1 hf).1
  have h := List.all_eq_true.1 h g (List.mem_range.2 hg)
  unfold fnsOkOf at h
  rw [hf] at h
  simp only [hb, hh] at h
  simpa using h

/-! Loops -/
/-- A loop, from its head on. -/
noncomputable def Lb (P : Program) (H : Hints) (g : FuncId) (m : Nat) (c : Code) (s : VS) : Res := thenX (ec P H g (SL P H) m c s) (ec P H g (SL P H) m (.loop c))
noncomputable def lpX (P : Program) (H : Hints) (g : FuncId) (m : Nat) (c : Code) : Option VS → Res
  | some s => Lb P H g m c s
  | none => none
theorem lpX_some {c : Code} : lpX P H g m c (some s) = Lb P H g m c s := (rfl)
/-- A loop's round, looked into. -/
theorem Lb_lp {fn : Func} {i : Nat} (hf : P.funcs[g]? = some fn) : Lb P H g m (lpc P g i) s = thenX (ec P H g (SL P H) m (relp (lpc P g) (lpd fn i) (i + 1)) s) (ec P H g (SL P H) m (.loop (lpc P g i))) := by
  rw [relp_loop hf]; rfl
theorem Lb_eq {c : Code} : Lb P H g m c s = thenX (ec P H g (SL P H) m c s) (ec P H g (SL P H) m (.loop c)) := (rfl)
theorem ec_loop {c : Code} : ec P H g (SL P H) m (.loop c) s = lpX P H g m c (canonS m (liveOf H g c) s) := by
  have e : ec P H g (SL P H) m (.loop c) s = (SL P H).lp (canonS m (liveOf H g c)) (ec P H g (SL P H) m c) s := (rfl)
  rw [e]
  cases hc : canonS m (liveOf H g c) s with
  | none => simp [canonS] at hc
  | some s' =>
    rw [lpX_some]
    cases hq : (SL P H).lp (canonS m (liveOf H g c)) (ec P H g (SL P H) m c) s with
    | some q =>
      obtain ⟨N, hN⟩ := lim_iff.1 hq
      have := hN (N + 1) (by omega)
      simp only [loopN, hc] at this
      have hn := hN N (Nat.le_refl _)
      unfold Lb
      rcases thenX_some this with ⟨s1, h1, h2⟩ | ⟨h1, h2⟩
      · rw [h1]
        show some q = (SL P H).lp (canonS m (liveOf H g c)) (ec P H g (SL P H) m c) s1
        exact (lim_iff.2 ⟨N, fun n hn => loopN_mono N s1 q h2 n hn⟩).symm
      · rw [h1]
        obtain ⟨x, s1⟩ := q
        cases x with
        | normal => exact absurd rfl h2
        | _ => rfl
    | none =>
      cases hb : Lb P H g m c s' with
      | none => rfl
      | some q =>
        have := SL_lp (P := P) (H := H) (can := canonS m (liveOf H g c)) (body := ec P H g (SL P H) m c) (s := s) (q := q) (by rw [hc]; exact hb)
        rw [hq] at this; simp at this
/-! Rules -/
theorem relp_seq {f a b i} : relp f (.seq a b) i = .seq (relp f a i) (relp f b (i + nlp a)) := (rfl)
theorem relp_cond {f c a b i} : relp f (.cond c a b) i = .cond c (relp f a i) (relp f b (i + nlp a)) := (rfl)
theorem relp_block {f k a i} : relp f (.block k a) i = .block k (relp f a i) := (rfl)
theorem relp_lp {f a i} : relp f (.loop a) i = .loop (f i) := (rfl)
theorem relp_region {f k ops d i} : relp f (.region k ops d) i = .region k ops d := (rfl)
theorem relp_skip {f i} : relp f .skip i = .skip := (rfl)
theorem relp_label {f l i} : relp f (.label l) i = .label l := (rfl)
theorem relp_exit {f k i} : relp f (.exit k) i = .exit k := (rfl)
theorem relp_ret {f i} : relp f .ret i = .ret := (rfl)
theorem ec_skip : ec P H g S m .skip s = some (.normal, s) := (rfl)
theorem ec_label {l} : ec P H g S m (.label l) s = some (.normal, s) := (rfl)
theorem ec_seq {a b} : ec P H g S m (.seq a b) s = thenX (ec P H g S m a s) (ec P H g S m b) := (rfl)
theorem ec_region {i ops} : ec P H g S m (.region i ops false) s = eops P H S m ops ops.toList s := (rfl)
theorem ec_draw {i ops} : ec P H g S m (.region i ops true) s = edrT P H S m ops s ((H.tbl g).lookup i) := (rfl)
theorem ec_cond {c x y} : ec P H g S m (.cond c x y) s = condX (boolOf (veval s.env c)) (ec P H g S m x) (ec P H g S m y) s := (rfl)
theorem ec_block {i c} : ec P H g S m (.block i c) s = blkX i (ec P H g S m c s) := (rfl)
theorem ec_exit {i} : ec P H g S m (.exit i) s = some (.exit i, s) := (rfl)
theorem ec_ret : ec P H g S m .ret s = some (.ret, s) := (rfl)
theorem thenX_normal {k : VS → Res} : thenX (some (.normal, s)) k = k s := (rfl)
theorem thenX_exit {k : VS → Res} {i} : thenX (some (.exit i, s)) k = some (.exit i, s) := (rfl)
theorem thenX_ret {k : VS → Res} : thenX (some (.ret, s)) k = some (.ret, s) := (rfl)
theorem thenX_panic {k : VS → Res} {x} : thenX (some (.panic x, s)) k = some (.panic x, s) := (rfl)
theorem thenX_none {k : VS → Res} : thenX none k = none := (rfl)
theorem thenX_ite {p : Prop} [Decidable p] {a b : Res} {k : VS → Res} : thenX (if p then a else b) k = if p then thenX a k else thenX b k := by split <;> rfl
theorem blkX_normal {i} : blkX i (some (.normal, s)) = some (.normal, s) := (rfl)
theorem blkX_exit {i j} : blkX i (some (.exit j, s)) = if j = i then some (.normal, s) else some (.exit j, s) := (rfl)
theorem blkX_ret {i} : blkX i (some (.ret, s)) = some (.ret, s) := (rfl)
theorem blkX_panic {i x} : blkX i (some (.panic x, s)) = some (.panic x, s) := (rfl)
theorem blkX_none {i} : blkX i none = none := (rfl)
theorem blkX_ite {i} {p : Prop} [Decidable p] {a b : Res} : blkX i (if p then a else b) = if p then blkX i a else blkX i b := by split <;> rfl
theorem condX_some {b x y} : condX (some b) x y s = if b = true then x s else y s := (rfl)
theorem callX_ret {dst x σ'} : callX dst s (some (.ret x, σ')) = some (.normal, ⟨putV s.env dst x, s.df, σ'⟩) := (rfl)
theorem callX_pan {dst x σ'} : callX dst s (some (.pan x, σ')) = some (.panic x, ⟨s.env, s.df, σ'⟩) := (rfl)
theorem callX_ite {dst} {p : Prop} [Decidable p] {a b : Option (VO × St)} : callX dst s (if p then a else b) = if p then callX dst s a else callX dst s b := by split <;> rfl
theorem stepX_some {dst x σ'} : stepX dst s (some (x, σ')) = some (.normal, ⟨putV s.env dst x, s.df, σ'⟩) := (rfl)
theorem stepX_ite {dst} {p : Prop} [Decidable p] {a b : Option (PV × St)} : stepX dst s (if p then a else b) = if p then stepX dst s a else stepX dst s b := by split <;> rfl
theorem stepX_none {dst} : stepX dst s none = none := (rfl)
theorem panX_some {x} : panX s (some x) = some (.panic x, s) := (rfl)
theorem deferX_some {dst args g a b} : deferX dst s args (some (g, a, b)) = some (.normal, ⟨putV s.env dst .any, ⟨g, b, a ++ args⟩ :: s.df, s.σ⟩) := (rfl)
theorem fnX_some {dst args g a b} : fnX H S m dst s args (some (g, a, b)) = callX dst s (ecall H S m g (a ++ args ++ b) s.σ) := (rfl)
theorem eops_nil {ops} : eops P H S m ops [] s = some (.normal, s) := (rfl)
theorem eops_cons {ops dst op ty pos after rest} : eops P H S m ops (⟨dst, op, ty, pos, after, none⟩ :: rest) s = thenX (estep P H S m ⟨dst, op, ty, pos, after, none⟩ s) (eops P H S m ops rest) := (rfl)
def grdX (b : Option (Option Bool)) (want : Bool) (yes no : VS → Res) (s s' : VS) : Res := match b with
  | none => none
  | some b => if b = some want then yes s else no s'
theorem grdX_some {b want yes no s'} : grdX (some b) want yes no s s' = if b = some want then yes s else no s' := (rfl)
def thenE (P : Program) (H : Hints) (S : Ora) (m : Nat) (o : Oper) (k : VS → Res) (s : VS) : Res := thenX (estep P H S m o s) k
theorem thenE_eq {o k} : thenE P H S m o k s = thenX (estep P H S m o s) k := (rfl)
theorem eops_guard {ops dst op ty pos after j want rest} : eops P H S m ops (⟨dst, op, ty, pos, after, some (j, want)⟩ :: rest) s =
    grdX (guardV ops s.env j) want (thenE P H S m ⟨dst, op, ty, pos, after, some (j, want)⟩ (eops P H S m ops rest)) (eops P H S m ops rest) s ⟨putV s.env dst (.tup []), s.df, s.σ⟩ := (rfl)
theorem edrT_some {ops E L} : edrT P H S m ops s (some (E, L)) = edr P H S m ops E L s := (rfl)
theorem edr_nil {ops E} : edr P H S m ops E [] s = some (.normal, s) := (rfl)
def edrO (P : Program) (H : Hints) (S : Ora) (m : Nat) (ops : Array Oper) (E : List Nat) (i : Nat) (pend : List Nat) (rest : List (Nat × List Nat)) (s : VS) : Option Oper → Res
  | none => none
  | some o => match o.guard with
    | none => edo P H S m ops (E.contains i) o pend (edr P H S m ops E rest) s
    | some (j, want) => grdX (guardV ops s.env j) want (edo P H S m ops (E.contains i) o pend (edr P H S m ops E rest)) (edr P H S m ops E rest) s ⟨putV s.env o.dst (.tup []), s.df, s.σ⟩
theorem edr_cons {ops E i pend rest} : edr P H S m ops E ((i, pend) :: rest) s = edrO P H S m ops E i pend rest s ops[i]? := by
  simp only [edr]
  cases ops[i]? with
  | none => rfl
  | some o =>
    simp only [edrO]
    cases o.guard with
    | none => rfl
    | some g => rfl
theorem edrO_none {ops E i pend rest dst op ty pos after} : edrO P H S m ops E i pend rest s (some ⟨dst, op, ty, pos, after, none⟩) = edo P H S m ops (E.contains i) ⟨dst, op, ty, pos, after, none⟩ pend (edr P H S m ops E rest) s := (rfl)
theorem edrO_some {ops E i pend rest dst op ty pos after j want} : edrO P H S m ops E i pend rest s (some ⟨dst, op, ty, pos, after, some (j, want)⟩) =
    grdX (guardV ops s.env j) want (edo P H S m ops (E.contains i) ⟨dst, op, ty, pos, after, some (j, want)⟩ pend (edr P H S m ops E rest)) (edr P H S m ops E rest) s ⟨putV s.env dst (.tup []), s.df, s.σ⟩ := (rfl)
theorem edo_true {ops o pend k} : edo P H S m ops true o pend k s = thenX (wipeX ops (estep P H S m o s)) (pendX P m ops pend k) := (rfl)
theorem edo_false {ops o pend k} : edo P H S m ops false o pend k s = if readOp o.op = true then thenX (stepX o.dst s (vop P m s.σ (veval s.env) o.op)) k else none := (rfl)
theorem wipeX_normal {ops} : wipeX ops (some (.normal, s)) = some (.normal, s) := (rfl)
theorem wipeX_panic {ops x} : wipeX ops (some (.panic x, s)) = some (.panic x, ⟨wipe ops s.env, s.df, s.σ⟩) := (rfl)
theorem wipeX_ite {ops} {p : Prop} [Decidable p] {a b : Res} : wipeX ops (if p then a else b) = if p then wipeX ops a else wipeX ops b := by split <;> rfl
theorem wipeX_none {ops} : wipeX ops none = none := (rfl)
theorem pendX_nil {ops k} : pendX P m ops [] k s = k s := by simp [pendX]
theorem pendX_cons {ops i l k} : pendX P m ops (i :: l) k s = if reChk P m ops s i = true then pendX P m ops l k s else none := by
  unfold pendX
  by_cases h : reChk P m ops s i = true <;> simp [h]

theorem eleaves_nil {res env σ} : eleaves P S res env [] none σ = resX σ (vres P env σ res) := (rfl)
theorem eleaves_pan {res env x σ} : eleaves P S res env [] (some x) σ = some (.inr x, σ) := (rfl)
theorem eleaves_cons {res env d ds md σ} : eleaves P S res env (d :: ds) md σ = leafK (eleaves P S res env ds) (edcall S d σ md) := (rfl)
theorem leafK_some {k md σ} : leafK k (some (md, σ)) = k md σ := (rfl)
theorem resX_some {σ rs} : resX σ (some rs) = some (.inl rs, σ) := (rfl)
theorem ebody_normal {res} : ebody P S res (some (.normal, s)) = eleaves P S res s.env s.df none s.σ := (rfl)
theorem ebody_ret {res} : ebody P S res (some (.ret, s)) = eleaves P S res s.env s.df none s.σ := (rfl)
theorem ebody_panic {res x} : ebody P S res (some (.panic x, s)) = eleaves P S res s.env s.df (some x) s.σ := (rfl)
theorem ebody_ite {res} {p : Prop} [Decidable p] {a b : Res} : ebody P S res (if p then a else b) = if p then ebody P S res a else ebody P S res b := by split <;> rfl
theorem efin_ite {m keep} {p : Prop} [Decidable p] {a b : Option ((List PV ⊕ VL.D) × St)} : efin m keep (if p then a else b) = if p then efin m keep a else efin m keep b := by split <;> rfl
theorem efin_data {m rs σ} : efin m none (some (.inl rs, σ)) = finD m σ (dataL σ m rs) := (rfl)
theorem efin_keep {m rs σ hs} : efin m (some hs) (some (.inl rs, σ)) = finR m (mats σ rs hs) := (rfl)
theorem efin_pan {m keep x σ} : efin m keep (some (.inr x, σ)) = some (.pan x, (canon σ m []).2) := (rfl)
theorem finD_some {m σ ys l} : finD m σ (some (ys, l)) = finR m (ys, l.foldl frz1 σ) := (rfl)
theorem dfin_normal {m md} : dfin m md (some (.normal, s)) = if s.df.length = 0 then some (md, (canon s.σ m []).2) else none := (rfl)
theorem dfin_ret {m md} : dfin m md (some (.ret, s)) = if s.df.length = 0 then some (md, (canon s.σ m []).2) else none := (rfl)
theorem dfin_ite {m md} {p : Prop} [Decidable p] {a b : Res} : dfin m md (if p then a else b) = if p then dfin m md a else dfin m md b := by split <;> rfl
theorem mergeO_some {σ ids o τ} : mergeO σ ids (some (o, τ)) = some (backV σ ids o, putB σ ids ids τ σ) := (rfl)
theorem mergeO_ite {σ ids} {p : Prop} [Decidable p] {a b : Option (VO × St)} : mergeO σ ids (if p then a else b) = if p then mergeO σ ids a else mergeO σ ids b := by split <;> rfl
theorem callF_ite {m σ cl} {p : Prop} [Decidable p] {a b : Option (VO × St)} : callF m σ cl (if p then a else b) = if p then callF m σ cl a else callF m σ cl b := by split <;> rfl
theorem mergeD_some {σ ids md τ} : mergeD σ ids (some (md, τ)) = some (md, putB σ ids ids τ σ) := (rfl)
theorem ecall1_some {σ cl ys} : ecall1 S m g σ cl (some ys) = ecall2 S m g σ cl ys := (rfl)
theorem ecall_eq {xs σ} : ecall H S m g xs σ = ecall1 S m g σ (closedA (H.own g) 0 xs) (closeA σ (H.own g) 0 xs) := (rfl)
theorem mkE_eq {l : List (Tmp × PV)} {t : Nat} : mkE l t = (l.lookup t).getD .any := (rfl)

mutual
theorem D.beq_self : ∀ (a : VL.D), D.beq a a = true
  | .bool a => by simp [D.beq]
  | .int k n => by simp [D.beq]
  | .flt a => by simp [D.beq]
  | .str a => by simp [D.beq]
  | .fz a => by simp [D.beq, D.beqLL_self a]
  | .nilp => rfl
  | .fp a => by simp [D.beq, D.beqL_self a]
  | .agg a => by simp [D.beq, D.beqL_self a]
  | .fn f a c => by simp [D.beq, fnEq, D.beqL_self a, D.beqL_self c]
  | .nilf => rfl
  | .ifc t x => by simp [D.beq, D.beq_self x]
  | .nili => rfl
theorem D.beqL_self : ∀ (a : List VL.D), D.beqL a a = true
  | [] => rfl
  | x :: a => by simp [D.beqL, D.beq_self x, D.beqL_self a]
theorem D.beqLL_self : ∀ (a : List (List VL.D)), D.beqLL a a = true
  | [] => rfl
  | x :: a => by simp [D.beqLL, D.beqL_self x, D.beqLL_self a]
end
mutual
theorem PV.beq_self : ∀ (a : PV), PV.beq a a = true
  | .any => rfl
  | .d a => by simp [PV.beq, D.beq_self a]
  | .nil => rfl
  | .nz => rfl
  | .sl a b c e => by simp [PV.beq]
  | .ptr a b c e => by simp [PV.beq]
  | .agg a => by simp [PV.beq, PV.beqL_self a]
  | .tup a => by simp [PV.beq, PV.beqL_self a]
  | .fn f a c => by simp [PV.beq, fnEq, PV.beqL_self a, PV.beqL_self c]
theorem PV.beqL_self : ∀ (a : List PV), PV.beqL a a = true
  | [] => rfl
  | x :: a => by simp [PV.beqL, PV.beq_self x, PV.beqL_self a]
end
end
theorem take1_drop {α : Type} {l : List α} {k : Nat} (h : k < l.length) : (l.drop k).take 1 = [l[k]] := by
  rw [List.drop_eq_getElem_cons h]; rfl
theorem take_cons_drop {α : Type} {l : List α} {k : Nat} {x : α} (h : k < l.length) : l.take k ++ x :: l.drop (k + 1) = l.set k x := by
  rw [List.set_eq_take_append_cons_drop, if_pos h]
theorem vrefs_map4 {α : Type} {f : α → VL.D} {l : List α} {σ : St} : (l.map fun n => PV.d (f n)).flatMap (vrefs σ 4) = [] := by
  induction l with
  | nil => rfl
  | cons a l ih => rw [List.map_cons, List.flatMap_cons, ih]; rfl
theorem ren_comp4 {α : Type} {f : α → VL.D} {g : Nat → Nat → Option (Nat × Nat)} : (VL.ren g 4) ∘ (fun n => PV.d (f n)) = fun n => PV.d (f n) := (rfl)
attribute [simp] vrefs_map4 ren_comp4
attribute [simp] take1_drop take_cons_drop
attribute [simp] relp_seq relp_cond relp_block relp_lp relp_region relp_skip relp_label relp_exit relp_ret nlp
attribute [simp] ec_loop lpX_some ec_skip ec_label ec_seq ec_region ec_draw ec_cond ec_block ec_exit ec_ret thenX_normal thenX_exit thenX_ret thenX_panic thenX_none thenX_ite blkX_normal blkX_exit blkX_ret blkX_panic blkX_none blkX_ite condX_some callX_ret callX_pan callX_ite stepX_some stepX_none stepX_ite
  panX_some deferX_some fnX_some eops_nil eops_cons grdX_some thenE_eq eops_guard edrT_some edr_nil edr_cons edrO_none edrO_some edo_true edo_false wipeX_normal wipeX_panic wipeX_ite wipeX_none pendX_nil pendX_cons eleaves_nil eleaves_pan eleaves_cons leafK_some resX_some
  ebody_normal ebody_ret ebody_panic ebody_ite efin_ite efin_data efin_keep efin_pan finD_some dfin_normal dfin_ret dfin_ite mergeO_some mergeO_ite callF_ite mergeD_some ecall1_some ecall_eq mkE_eq D.beq_self PV.beq_self
  estep readOp reChk reSame reNo isAny closeA closedA ecall2 callF callB edcall canonS mats mat1 matV matC canon reach closeR addNew vrefs obRefs ren renOb toNew posOf canonSt getOb flatDf unflatDf putB toOld backV flatO flatV flatOb dataL dataV finR firstReg liveOf
  pvV pvC dC placesP vfill Value.cells vbuildSlice vparts partIds vslice vbound vindex vfield vappend vrows vstr vshift
  vsnil snil obEq stEq resEq
  toD ids idsL frzL frz1 fnOf isIfc vres vassert recV VL.flat
end Go.VL
