/- E-logic, part F: code, functions. -/
import Derived.Test.YtbgjkpokmlkgiaaEa
namespace Go.VL
open Go

section
variable {P : Program} {σ τ τ2 : St} {S : Ora} {N m : Nat} {H : Hints} {K : VX → VS → Prop} {s s' : VS} {x : VX}

/-- What holds of a result. -/
def RK (K : VX → VS → Prop) (r : Res) : Prop := ∀ x s, r = some (x, s) → K x s

theorem thenX_some {r : Res} {k : VS → Res} {q : VX × VS} (h : thenX r k = some q) : (∃ s1, r = some (.normal, s1) ∧ k s1 = some q) ∨ (r = some q ∧ q.1 ≠ .normal) := by
  unfold thenX at h
  split at h
  · exact .inl ⟨_, rfl, h⟩
  · rename_i hne
    obtain ⟨x, s⟩ := q
    refine .inr ⟨h, fun e => ?_⟩
    simp only at e; subst e
    exact hne s h

theorem PCalls.exact {g : FuncId} {xs : List PV} {r : VO × St} {R : VO → St → Prop} (h : PCalls P m g xs σ (Ex r)) (hr : R r.1 r.2) : PCalls P m g xs σ R :=
  h.mono fun o σ' e => by cases e; exact hr
theorem PDefs.mono {x : DV} {md : Option D} {R R' : Option D → St → Prop} (h : PDefs P m x σ md R) (hr : ∀ md σ, R md σ → R' md σ) : PDefs P m x σ md R' := by
  intro B β w va ca u hm hw h1 h2 h3
  obtain ⟨h4, h5⟩ := h B β w va ca u hm hw h1 h2 h3
  refine ⟨h4, h5.mono fun e u' w' hR => ?_⟩
  cases e with
  | returned v => obtain ⟨md', σ', β', h6, h7⟩ := hR; exact ⟨md', σ', β', hr _ _ h6, h7⟩
  | panicked ch => obtain ⟨md', σ', β', h6, h7⟩ := hR; exact ⟨md', σ', β', hr _ _ h6, h7⟩
  | outgrown => exact hR

/-- A step: what is behind it is told by 'next', or it ends in 'K'. -/
theorem estep_sound (hS : SOK P S) {o : Oper} {q : VX × VS} (h : estep P H S m o s = some q) {next : VS → Prop} (hn : q.1 = .normal → next q.2) (hk : q.1 ≠ .normal → K q.1 q.2) : vstep P m o K next s := by
  have gen : stepX o.dst s (vop P m s.σ (veval s.env) o.op) = some q → ob (vop P m s.σ (veval s.env) o.op) (StepK next o.dst s) := by
    intro h
    cases hv : vop P m s.σ (veval s.env) o.op with
    | none => rw [hv] at h; simp [stepX] at h
    | some r => obtain ⟨y, σ'⟩ := r; rw [hv] at h; simp only [stepX, Option.some.injEq] at h; subst h; exact hn rfl
  obtain ⟨dst, op, type, pos, after, guard⟩ := o
  cases op with
  | panic x =>
    simp only [estep] at h
    simp only [vstep]
    cases hi : isIfc (veval s.env x) with
    | none => rw [hi] at h; simp [panX] at h
    | some d => rw [hi] at h; simp only [panX, Option.some.injEq] at h; subst h; exact hk (by simp)
  | defer c =>
    obtain ⟨callee, cargs, ctys⟩ := c
    cases callee with
    | value f =>
      simp only [estep] at h
      simp only [vstep]
      cases hf : fnOf (veval s.env f) with
      | none => rw [hf] at h; simp [deferX] at h
      | some r => obtain ⟨g, a, b⟩ := r; rw [hf] at h; simp only [deferX, Option.some.injEq] at h; subst h; exact hn rfl
    | _ => simp [estep] at h
  | call c =>
    obtain ⟨callee, cargs, ctys⟩ := c
    cases callee with
    | value f =>
      simp only [estep] at h
      simp only [vstep]
      cases hf : fnOf (veval s.env f) with
      | none => rw [hf] at h; simp [fnX] at h
      | some r =>
        obtain ⟨g, a, b⟩ := r
        rw [hf] at h
        simp only [fnX] at h
        cases hc : ecall H S m g (a ++ cargs.toList.map (veval s.env) ++ b) s.σ with
        | none => rw [hc] at h; simp [callX] at h
        | some r =>
          rw [hc] at h
          refine (ecall_sound hS hc).exact ?_
          obtain ⟨o, σ'⟩ := r
          cases o with
          | ret y => simp only [callX, Option.some.injEq] at h; subst h; exact hn rfl
          | pan y => simp only [callX, Option.some.injEq] at h; subst h; exact hk (by simp)
    | builtin b =>
      simp only [estep] at h
      simp only [vstep]
      cases hv : vbuiltin P s.σ b ctys (cargs.toList.map (veval s.env)) with
      | none => rw [hv] at h; simp [stepX] at h
      | some r => obtain ⟨y, σ'⟩ := r; rw [hv] at h; simp only [stepX, Option.some.injEq] at h; subst h; exact hn rfl
    | invoke r mth => simp [estep] at h
  | _ => exact gen h

theorem eops_sound (hS : SOK P S) {ops : Array Oper} : ∀ (l : List Oper) (s : VS) (q : VX × VS), eops P H S m ops l s = some q → K q.1 q.2 → vops P m ops K l s
  | [], s, q, h, hk => by simp only [eops, Option.some.injEq] at h; subst h; exact hk
  | o :: rest, s, q, h, hk => by
    have step : ∀ s, thenX (estep P H S m o s) (eops P H S m ops rest) = some q → vstep P m o K (vops P m ops K rest) s := by
      intro s h
      rcases thenX_some h with ⟨s1, h1, h2⟩ | ⟨h1, h2⟩
      · exact estep_sound hS h1 (fun _ => eops_sound hS rest s1 q h2 hk) (fun e => absurd rfl e)
      · exact estep_sound hS h1 (fun e => absurd e h2) (fun _ => hk)
    simp only [eops] at h
    simp only [vops]
    cases hg : o.guard with
    | none => rw [hg] at h; exact step s h
    | some g =>
      obtain ⟨j, want⟩ := g
      rw [hg] at h
      simp only at h ⊢
      cases hv : guardV ops s.env j with
      | none => rw [hv] at h; simp at h
      | some b =>
        rw [hv] at h
        simp only [ob, GuardK] at h ⊢
        by_cases e : b = some want
        · rw [if_pos e] at h ⊢; exact step s h
        · rw [if_neg e] at h ⊢; exact eops_sound hS rest _ q h hk

mutual
theorem D.beq_eq : ∀ {a b : VL.D}, D.beq a b = true → a = b
  | .bool a, b, h => by cases b <;> simp [D.beq] at h; subst h; rfl
  | .int k n, b, h => by cases b <;> simp [D.beq] at h; obtain ⟨rfl, rfl⟩ := h; rfl
  | .flt a, b, h => by cases b <;> simp [D.beq] at h; subst h; rfl
  | .str a, b, h => by cases b <;> simp [D.beq] at h; subst h; rfl
  | .fz a, b, h => by cases b <;> simp [D.beq] at h; rw [D.beqLL_eq h]
  | .nilp, b, h => by cases b <;> simp [D.beq] at h; rfl
  | .fp a, b, h => by cases b <;> simp [D.beq] at h; rw [D.beqL_eq h]
  | .agg a, b, h => by cases b <;> simp [D.beq] at h; rw [D.beqL_eq h]
  | .fn f a c, b, h => by
    cases b <;> simp [D.beq] at h
    rename_i f' a' c'
    obtain ⟨⟨h1, h2⟩, h3⟩ := h
    rw [D.beqL_eq h2, D.beqL_eq h3]
    simp [fnEq] at h1; subst h1; rfl
  | .nilf, b, h => by cases b <;> simp [D.beq] at h; rfl
  | .ifc t x, b, h => by cases b <;> simp [D.beq] at h; rw [h.1, D.beq_eq h.2]
  | .nili, b, h => by cases b <;> simp [D.beq] at h; rfl
theorem D.beqL_eq : ∀ {a b : List VL.D}, D.beqL a b = true → a = b
  | [], b, h => by cases b <;> simp [D.beqL] at h; rfl
  | x :: a, b, h => by cases b <;> simp [D.beqL] at h; rw [D.beq_eq h.1, D.beqL_eq h.2]
theorem D.beqLL_eq : ∀ {a b : List (List VL.D)}, D.beqLL a b = true → a = b
  | [], b, h => by cases b <;> simp [D.beqLL] at h; rfl
  | x :: a, b, h => by cases b <;> simp [D.beqLL] at h; rw [D.beqL_eq h.1, D.beqLL_eq h.2]
end
mutual
theorem PV.beq_eq : ∀ {a b : PV}, PV.beq a b = true → a = b
  | .any, b, h => by cases b <;> simp [PV.beq] at h; rfl
  | .d a, b, h => by cases b <;> simp [PV.beq] at h; rw [D.beq_eq h]
  | .nil, b, h => by cases b <;> simp [PV.beq] at h; rfl
  | .nz, b, h => by cases b <;> simp [PV.beq] at h; rfl
  | .sl a c u e, b, h => by cases b <;> simp [PV.beq] at h; obtain ⟨⟨⟨rfl, rfl⟩, rfl⟩, rfl⟩ := h; rfl
  | .ptr a c u e, b, h => by cases b <;> simp [PV.beq] at h; obtain ⟨⟨⟨rfl, rfl⟩, rfl⟩, rfl⟩ := h; rfl
  | .agg a, b, h => by cases b <;> simp [PV.beq] at h; rw [PV.beqL_eq h]
  | .tup a, b, h => by cases b <;> simp [PV.beq] at h; rw [PV.beqL_eq h]
  | .fn f a c, b, h => by
    cases b <;> simp [PV.beq] at h
    rename_i f' a' c'
    obtain ⟨⟨h1, h2⟩, h3⟩ := h
    rw [PV.beqL_eq h2, PV.beqL_eq h3]
    simp [fnEq] at h1; subst h1; rfl
theorem PV.beqL_eq : ∀ {a b : List PV}, PV.beqL a b = true → a = b
  | [], b, h => by cases b <;> simp [PV.beqL] at h; rfl
  | x :: a, b, h => by cases b <;> simp [PV.beqL] at h; rw [PV.beq_eq h.1, PV.beqL_eq h.2]
end

theorem readOp_same {ρ : Operand → PV} {op : Op} {r : PV × St} (hp : readOp op = true) (h : vop P m σ ρ op = some r) : r.2 = σ := by
  cases op with
  | move x => simp [vop] at h; subst h; rfl
  | assign x => simp [vop] at h; subst h; rfl
  | pick c a b =>
    simp only [vop] at h
    split at h
    · simp at h; subst h; rfl
    · simp at h
  | build t parts => simp only [vop, Option.map_eq_some_iff] at h; obtain ⟨x, _, rfl⟩ := h; rfl
  | load t a => simp only [vop, Option.map_eq_some_iff] at h; obtain ⟨x, _, rfl⟩ := h; rfl
  | nilCheck x =>
    simp only [vop] at h
    split at h
    · simp at h; subst h; rfl
    · simp at h
  | binOp op t x y ty =>
    simp only [vop] at h
    (repeat' split at h) <;> first
      | (simp at h; done)
      | (simp only [Option.map_eq_some_iff] at h; obtain ⟨x, _, rfl⟩ := h; rfl)
      | (simp at h; subst h; rfl)
      | (simp at h; obtain ⟨_, _, rfl⟩ := h; rfl)
      | (cases h; rfl)
  | unOp op t x => simp only [vop, Option.map_eq_some_iff] at h; obtain ⟨x, _, rfl⟩ := h; rfl
  | convert a b x => simp only [vop, Option.map_eq_some_iff] at h; obtain ⟨x, _, rfl⟩ := h; rfl
  | makeInterface t x =>
    simp only [vop] at h
    (repeat' split at h) <;> first
      | (simp at h; done)
      | (simp only [Option.map_eq_some_iff] at h; obtain ⟨x, _, rfl⟩ := h; rfl)
      | (simp at h; subst h; rfl)
  | makeFunc f a b => simp [vop] at h; subst h; rfl
  | slice t x lo hi mx =>
    cases mx with
    | none => simp only [vop, Option.map_eq_some_iff] at h; obtain ⟨x, _, rfl⟩ := h; rfl
    | some y => simp [vop] at h
  | fieldAddr s x f =>
    simp only [vop] at h
    (repeat' split at h) <;> first
      | (simp at h; done)
      | (simp only [Option.map_eq_some_iff] at h; obtain ⟨x, _, rfl⟩ := h; rfl)
      | (simp at h; subst h; rfl)
  | field t x f => simp only [vop, Option.map_eq_some_iff] at h; obtain ⟨x, _, rfl⟩ := h; rfl
  | indexAddr t x i => simp only [vop, Option.map_eq_some_iff] at h; obtain ⟨x, _, rfl⟩ := h; rfl
  | index t x i => simp only [vop, Option.map_eq_some_iff] at h; obtain ⟨x, _, rfl⟩ := h; rfl
  | typeAssert x t a ok => simp only [vop, Option.map_eq_some_iff] at h; obtain ⟨x, _, rfl⟩ := h; rfl
  | extract x i =>
    simp only [vop] at h
    (repeat' split at h) <;> first
      | (simp at h; done)
      | (simp only [Option.map_eq_some_iff] at h; obtain ⟨x, _, rfl⟩ := h; rfl)
      | (simp at h; subst h; rfl)
  | call c =>
    obtain ⟨callee, cargs, ctys⟩ := c
    cases callee with
    | builtin b =>
      simp only [vop] at h
      cases b <;> simp only [readOp] at hp <;> first | (simp at hp; done) | skip
      all_goals
        unfold vbuiltin at h
        (repeat' split at h) <;> first
          | (simp at h; done)
          | (simp only [Option.map_eq_some_iff] at h; obtain ⟨x, _, rfl⟩ := h; rfl)
          | (simp at h; subst h; rfl)
          | (simp_all; done)
    | _ => simp [readOp] at hp
  | _ => simp [readOp] at hp

theorem reChk_ok {ops : Array Oper} {p : Nat} (h : reChk P m ops s p = true) : reAt P m ops s p := by
  unfold reChk at h
  unfold reAt
  cases ho : ops[p]? with
  | none => trivial
  | some o =>
    rw [ho] at h
    simp only [Bool.and_eq_true] at h
    obtain ⟨hp, h⟩ := h
    have val : reSame o.dst s (vop P m s.σ (veval s.env) o.op) = true → reVal P m o s := by
      intro h
      unfold reVal
      cases hv : vop P m s.σ (veval s.env) o.op with
      | none => rw [hv] at h; simp [reSame] at h
      | some r =>
        have hsame := readOp_same hp hv
        obtain ⟨y, σ'⟩ := r
        rw [hv] at h
        refine ⟨hsame, fun d hd => ?_⟩
        simp only [reSame, hd] at h
        exact PV.beq_eq h
    simp only
    cases hg : o.guard with
    | none => rw [hg] at h; exact val h
    | some g =>
      obtain ⟨j, want⟩ := g
      rw [hg] at h
      simp only at h ⊢
      cases hv : guardV ops s.env j with
      | none => rw [hv] at h; simp at h
      | some b =>
        rw [hv] at h
        simp only [ob, ReK] at h ⊢
        by_cases e : b = some want
        · rw [if_pos e] at h ⊢; exact val h
        · rw [if_neg e] at h ⊢
          intro d hd
          simp only [reNo, hd] at h
          unfold isAny at h
          split at h
          · assumption
          · simp at h

theorem edr_sound (hS : SOK P S) {ops : Array Oper} {E : List Nat} : ∀ (L : List (Nat × List Nat)) (s : VS) (q : VX × VS), edr P H S m ops E L s = some q → K q.1 q.2 → vdr P m ops K E L s
  | [], s, q, h, hk => by simp only [edr, Option.some.injEq] at h; subst h; exact hk
  | (i, pend) :: rest, s, q, h, hk => by
    have step : ∀ (o : Oper) (s : VS), edo P H S m ops (E.contains i) o pend (edr P H S m ops E rest) s = some q → vdo P m ops K (E.contains i) o pend (vdr P m ops K E rest) s := by
      intro o s h
      unfold edo at h
      unfold vdo
      by_cases he : E.contains i = true
      · rw [if_pos he] at h ⊢
        rcases thenX_some h with ⟨s1, h1, h2⟩ | ⟨h1, h2⟩
        · have h1' : estep P H S m o s = some (.normal, s1) := by
            unfold wipeX at h1
            split at h1
            · simp at h1
            · exact h1
          refine estep_sound hS h1' (fun _ => ?_) (fun e => absurd rfl e)
          unfold pendX at h2
          split at h2
          · rename_i hall
            exact ⟨fun p hp => reChk_ok (List.all_eq_true.1 hall p hp), edr_sound hS rest s1 q h2 hk⟩
          · simp at h2
        · unfold wipeX at h1
          split at h1
          · rename_i y s1 he1
            cases h1
            exact estep_sound hS he1 (fun e => by simp at e) (fun _ => hk)
          · rename_i hne
            refine estep_sound hS h1 (fun e => absurd e h2) (fun _ => ?_)
            obtain ⟨x, s1⟩ := q
            cases x with
            | panic y => exact absurd h1 (hne y s1)
            | normal => exact absurd rfl h2
            | exit j => exact hk
            | ret => exact hk
      · rw [if_neg he] at h ⊢
        split at h
        · rename_i hr
          cases hv : vop P m s.σ (veval s.env) o.op with
          | none => rw [hv] at h; simp [stepX, thenX] at h
          | some r =>
            have hsame := readOp_same hr hv
            obtain ⟨y, σ'⟩ := r
            simp only at hsame; subst hsame
            rw [hv] at h
            simp only [stepX, thenX] at h
            exact ⟨rfl, edr_sound hS rest _ q h hk⟩
        · simp at h
    simp only [edr] at h
    simp only [vdr]
    cases ho : ops[i]? with
    | none => rw [ho] at h; simp at h
    | some o =>
      rw [ho] at h
      simp only at h ⊢
      unfold vguard
      cases hg : o.guard with
      | none => rw [hg] at h; exact step o s h
      | some g =>
        obtain ⟨j, want⟩ := g
        rw [hg] at h
        simp only at h ⊢
        cases hv : guardV ops s.env j with
        | none => rw [hv] at h; simp at h
        | some b =>
          rw [hv] at h
          simp only [ob, GuardK] at h ⊢
          by_cases e : b = some want
          · rw [if_pos e] at h ⊢; exact step o s h
          · rw [if_neg e] at h ⊢; exact edr_sound hS rest _ q h hk

theorem exists_least {p : Nat → Prop} : ∀ n, p n → ∃ k, p k ∧ ∀ j, p j → k ≤ j := by
  intro n
  induction n using Nat.strongRecOn with
  | _ n ih =>
    intro hp
    by_cases h : ∃ j, j < n ∧ p j
    · obtain ⟨j, h1, h2⟩ := h; exact ih j h1 h2
    · exact ⟨n, hp, fun j hj => by
        rcases Nat.lt_or_ge j n with h1 | h1
        · exact absurd ⟨j, h1, hj⟩ h
        · exact h1⟩

theorem loop_normal : ∀ (n : Nat) {can : VS → Option VS} {body : VS → Res} {s : VS} {q : VX × VS}, loopN n can body s = some q → q.1 ≠ .normal
  | 0, can, body, s, q, h => by simp [loopN] at h
  | n + 1, can, body, s, q, h => by
    simp only [loopN] at h
    split at h
    · rcases thenX_some h with ⟨s1, _, h2⟩ | ⟨_, h2⟩
      · exact loop_normal n h2
      · exact h2
    · simp at h

open Classical in
noncomputable def leastOf (p : Nat → Prop) : Nat := if h : ∃ k, p k ∧ ∀ j, p j → k ≤ j then Classical.choose h else 0
theorem leastOf_spec {p : Nat → Prop} {n : Nat} (h : p n) : p (leastOf p) ∧ leastOf p ≤ n := by
  have h1 := exists_least n h
  unfold leastOf
  rw [dif_pos h1]
  have := Classical.choose_spec h1
  exact ⟨this.1, this.2 n h⟩

theorem ec_sound (hS : SOK P S) {n : Nat} (hlp : S.lp = loopN n) {g : FuncId} : ∀ (c : Code) (K : VX → VS → Prop) (s : VS) (q : VX × VS), ec P H g S m c s = some q → K q.1 q.2 → vwp P m (drawH P m (H.tbl g)) c K s := by
  intro c
  induction c with
  | skip => intro K s q h hk; simp only [ec, Option.some.injEq] at h; subst h; exact hk
  | label l => intro K s q h hk; simp only [ec, Option.some.injEq] at h; subst h; exact hk
  | exit i => intro K s q h hk; simp only [ec, Option.some.injEq] at h; subst h; exact hk
  | ret => intro K s q h hk; simp only [ec, Option.some.injEq] at h; subst h; exact hk
  | seq a b iha ihb =>
    intro K s q h hk
    simp only [ec] at h
    rcases thenX_some h with ⟨s1, h1, h2⟩ | ⟨h1, h2⟩
    · exact iha _ s _ h1 (ihb K s1 q h2 hk)
    · refine iha _ s _ h1 ?_
      obtain ⟨x, s1⟩ := q
      cases x with
      | normal => exact absurd rfl h2
      | _ => exact hk
  | region id ops draw =>
    intro K s q h hk
    cases draw with
    | false => simp only [ec] at h; exact eops_sound hS _ s q h hk
    | true =>
      simp only [ec] at h
      show drawH P m (H.tbl g) id ops K s
      unfold drawH
      cases hl : (H.tbl g).lookup id with
      | none => rw [hl] at h; simp [edrT] at h
      | some r => obtain ⟨E, L⟩ := r; rw [hl] at h; exact edr_sound hS L s q h hk
  | cond c x y ihx ihy =>
    intro K s q h hk
    simp only [ec] at h
    simp only [vwp]
    cases hb : boolOf (veval s.env c) with
    | none => rw [hb] at h; simp [condX] at h
    | some b =>
      rw [hb] at h
      simp only [condX] at h
      simp only [ob, CondK]
      by_cases e : b = true
      · rw [if_pos e] at h ⊢; exact ihx K s q h hk
      · rw [if_neg e] at h ⊢; exact ihy K s q h hk
  | block id c ih =>
    intro K s q h hk
    simp only [ec] at h
    simp only [vwp]
    unfold blkX at h
    split at h
    · rename_i i s1 he
      refine ih _ s _ he ?_
      simp only [Blk]
      by_cases e : i = id
      · rw [if_pos e] at h ⊢; cases h; exact hk
      · rw [if_neg e] at h ⊢; cases h; exact hk
    · rename_i hne
      refine ih _ s _ h ?_
      obtain ⟨x, s1⟩ := q
      cases x with
      | exit i => exact absurd h (hne i s1)
      | _ => exact hk
  | loop c ih =>
    intro K s q h hk
    simp only [ec, hlp] at h
    simp only [vwp]
    generalize hcan : canonS m (liveOf H g c) = can at h
    have hsw : ∀ s s', can s = some s' → SWk m s s' := fun s s' h => by rw [← hcan] at h; exact canonS_sound h
    have unf : ∀ (k : Nat) (s : VS), loopN k can (ec P H g S m c) s = some q → ∃ k' s1, k = k' + 1 ∧ can s = some s1 ∧ thenX (ec P H g S m c s1) (loopN k' can (ec P H g S m c)) = some q := by
      intro k s h
      cases k with
      | zero => simp [loopN] at h
      | succ k =>
        simp only [loopN] at h
        split at h
        · rename_i s1 h1; exact ⟨k, s1, rfl, h1, h⟩
        · simp at h
    refine ⟨fun s1 => ∃ k, thenX (ec P H g S m c s1) (loopN k can (ec P H g S m c)) = some q, fun s1 => leastOf fun k => thenX (ec P H g S m c s1) (loopN k can (ec P H g S m c)) = some q, ?_, ?_⟩
    · obtain ⟨k', s1, _, h1, h2⟩ := unf n s h
      exact ⟨s1, hsw s s1 h1, k', h2⟩
    · rintro s1 ⟨k, hk1⟩
      obtain ⟨hl1, hl2⟩ := leastOf_spec (p := fun k => thenX (ec P H g S m c s1) (loopN k can (ec P H g S m c)) = some q) hk1
      rcases thenX_some hl1 with ⟨s2, h1, h2⟩ | ⟨h1, h2⟩
      · refine ih _ s1 _ h1 ?_
        obtain ⟨k', s3, e1, e2, e3⟩ := unf _ s2 h2
        refine ⟨s3, hsw s2 s3 e2, ⟨k', e3⟩, ?_⟩
        have := (leastOf_spec (p := fun k => thenX (ec P H g S m c s3) (loopN k can (ec P H g S m c)) = some q) e3).2
        exact Nat.lt_of_le_of_lt this (Nat.lt_of_lt_of_eq (Nat.lt_succ_self _) e1.symm)
      · refine ih _ s1 _ h1 ?_
        obtain ⟨x, s2⟩ := q
        cases x with
        | normal => exact absurd rfl h2
        | _ => exact hk
  | _ => intro K s q h hk; simp [ec] at h
end
end Go.VL
namespace Go.VL
open Go

def FinS (m : Nat) (R : VO → St → Prop) (rs : List PV) (σ : St) : Prop := ∃ rs' σ', SW m rs σ rs' σ' ∧ R (.ret (retV rs')) σ'
def FinSP (m : Nat) (R : VO → St → Prop) (x : D) (σ : St) : Prop := ∃ σ', SW m [] σ [] σ' ∧ R (.pan x) σ'

/-- What holds of this program and its hints. -/
structure HOK (P : Program) (H : Hints) : Prop where
  mixed : P.follows .mixedOrders = true
  fns : ∀ g fn c, P.funcs[g]? = some fn → fn.body = some c → H.has g = true → (fn.name == "runtime.NumGoroutine") = false ∧ dstOk fn.ntmps (ordT (H.tbl g)) c = true
  ext : ∀ g e, H.ext g = some e → ∀ args x σ m, e args = some x → PCalls P m g args σ (Ex (.ret x, σ))

section
variable {P : Program} {B : Base} {β β' : Bt} {σ σ' τ : St} {w w' : World} {Z : Nat → Prop} {S : Ora} {N m : Nat} {H : Hints}

theorem PCalls.introS (T : Tbl) (hm : P.follows .mixedOrders = true) {g : FuncId} {fn : Func} {c : Code} {res : List ResultVar} (hfn : FnOK P g fn c N (ordT T) res) {args : List PV} (hl : args.length ≤ N) {R : VO → St → Prop}
    (h : vwp P σ.length (drawH P σ.length T) c (BodyK P σ.length res (FinS σ.length R) (FinSP σ.length R)) ⟨env0 args, [], σ⟩) {m : Nat} : PCalls P m g args σ R := by
  intro B β w vals hmB hw hv
  refine .inl ⟨run_enter hfn _, ?_⟩
  have hb := base_self hw
  have hv' : VRelL β σ w (Zc ⟨β, σ, w, Zc B β σ w⟩ β σ w) args vals :=
    ⟨hv.1, fun j x v hx hu => (hv.2 j x v hx hu).mono (Ext.refl _ _) (fun _ _ _ _ h => h) (fun b hb => ⟨.inl hb, hb.2.1, hb.2.2⟩)⟩
  refine body_sound (B := ⟨β, σ, w, Zc B β σ w⟩) (drawH_ok hm) hfn.at_ hfn.body hfn.tmps hfn.dst hb hv' hl ?_ (by rw [hfn.res]; exact h)
  refine ⟨fun rs σ1 w1 β1 vs hR hw1 hrs => ?_, fun x σ1 w1 β1 v hR hw1 hd => ?_⟩
  · obtain ⟨rs', σ2, hsw, hk⟩ := hR
    obtain ⟨β2, hw2, hv2, -⟩ := hsw _ β1 w1 vs rfl hw1 hrs
    obtain ⟨hmv, hz⟩ := rebase hw hw2
    exact ⟨_, _, β2, hk, hmv, (retV_rel hv2).mono (Ext.refl _ _) (fun _ _ _ _ h => h) hz⟩
  · obtain ⟨σ2, hsw, hk⟩ := hR
    obtain ⟨β2, hw2, -, hz2⟩ := hsw _ β1 w1 [] rfl hw1 ⟨rfl, by simp⟩
    obtain ⟨hmv, hz⟩ := rebase hw hw2
    exact ⟨_, _, β2, hk, hmv, v, rfl, hd.mono (fun _ _ _ _ h => h) (fun b hb => hz b (hz2 b hb))⟩

theorem leaves_ok (hS : SOK P S) {res : List ResultVar} {env : Env} {R : List PV → St → Prop} {RP : D → St → Prop} : ∀ (ds : List DV) (md : Option D) (σ : St) (q : (List PV ⊕ D) × St), eleaves P S res env ds md σ = some q →
    (∀ rs, q.1 = .inl rs → R rs q.2) → (∀ x, q.1 = .inr x → RP x q.2) → vleaves P m res env R RP ds md σ
  | [], none, σ, q, h, h1, h2 => by
    simp only [eleaves] at h
    simp only [vleaves]
    cases hr : vres P env σ res with
    | none => rw [hr] at h; simp [resX] at h
    | some rs => rw [hr] at h; simp only [resX, Option.some.injEq] at h; subst h; exact h1 rs rfl
  | [], some x, σ, q, h, h1, h2 => by
    simp only [eleaves, Option.some.injEq] at h; subst h; exact h2 x rfl
  | d :: ds, md, σ, q, h, h1, h2 => by
    simp only [eleaves] at h
    cases hd : edcall S d σ md with
    | none => rw [hd] at h; simp [leafK] at h
    | some r =>
      obtain ⟨md', σ'⟩ := r
      rw [hd] at h
      simp only [leafK] at h
      refine (edcall_sound hS hd).mono fun md1 σ1 e => ?_
      cases e
      exact leaves_ok hS ds md' σ' q h h1 h2

theorem dataL_sound : ∀ (rs ys : List PV) (l : List Nat), dataL σ B.σ.length rs = some (ys, l) → (∀ id ∈ l, B.σ.length ≤ id) ∧ ∀ (l' : List Nat), (∀ id ∈ l, id ∈ l') → (∀ id ∈ l', B.σ.length ≤ id) → ∀ vs, WR B β σ w → VRelL β σ w (Zc B β σ w) rs vs →
    VRelL β (l'.foldl frz1 σ) w (Zc B β (l'.foldl frz1 σ) w) ys vs
  | [], ys, l, h => by
    simp only [dataL, Option.some.injEq, Prod.mk.injEq] at h
    obtain ⟨rfl, rfl⟩ := h
    exact ⟨by simp, fun _ _ _ vs _ hv => ⟨hv.1, by simp⟩⟩
  | x :: rs, ys, l, h => by
    simp only [dataL] at h
    split at h
    · rename_i y a r b h1 h2
      simp only [Option.some.injEq, Prod.mk.injEq] at h
      obtain ⟨rfl, rfl⟩ := h
      obtain ⟨ih1, ih2⟩ := dataL_sound rs r b h2
      unfold dataV at h1
      split at h1
      · rename_i hall
        cases hd : toD σ 5 x with
        | none => rw [hd] at h1; simp at h1
        | some z =>
          rw [hd] at h1; simp at h1
          obtain ⟨rfl, rfl⟩ := h1
          have hge : ∀ id ∈ ids σ 5 x, B.σ.length ≤ id := fun id hid => of_decide_eq_true (List.all_eq_true.1 hall id hid)
          refine ⟨fun id hid => ?_, fun l' hsub hl' vs hw hv => ?_⟩
          · rcases List.mem_append.1 hid with h | h
            · exact hge id h
            · exact ih1 id h
          · cases vs with
            | nil => exact absurd hv.1 (by simp)
            | cons v vs =>
              exact .cons (.d _ _ (closed_relL hw hl' (fun id hid => hsub id (List.mem_append_left _ hid)) hd hv.head)) (ih2 l' (fun id hid => hsub id (List.mem_append_right _ hid)) hl' vs hw hv.tail)
      · simp at h1
        obtain ⟨rfl, rfl⟩ := h1
        refine ⟨by simpa using ih1, fun l' hsub hl' vs hw hv => ?_⟩
        cases vs with
        | nil => exact absurd hv.1 (by simp)
        | cons v vs => exact .cons ((frzs_sound l' σ hw).1.vrel hv.head) (ih2 l' (fun id hid => hsub id (by simpa using hid)) hl' vs hw hv.tail)
    · simp at h

theorem efin_sound {keep : Option (List (List (Option Nat)))} {q : (List PV ⊕ D) × St} {r : VO × St} (h : efin m keep (some q) = some r) :
    (∀ rs, q.1 = .inl rs → FinS m (Ex r) rs q.2) ∧ (∀ x, q.1 = .inr x → FinSP m (Ex r) x q.2) := by
  obtain ⟨q, σ⟩ := q
  refine ⟨fun rs e => ?_, fun x e => ?_⟩
  · simp only at e; subst e
    simp only [efin] at h
    cases keep with
    | none =>
      simp only at h
      cases hd : dataL σ m rs with
      | none => rw [hd] at h; simp [finD] at h
      | some q =>
        obtain ⟨ys, l⟩ := q
        rw [hd] at h
        simp only [finD, finR, Option.some.injEq] at h
        refine ⟨_, _, SW.trans (SW.of_mv (xs' := ys) (σ' := l.foldl frz1 σ) fun B β w vs hm hw hv => ?_) SW.canon, by rw [← h]; exact rfl⟩
        subst hm
        obtain ⟨h1, h2⟩ := dataL_sound (B := B) (β := β) (w := w) rs ys l hd
        exact ⟨β, (frzs_sound l σ hw).1, h2 l (fun _ h => h) h1 vs hw hv⟩
    | some hs =>
      simp only [finR, Option.some.injEq] at h
      refine ⟨_, _, SW.trans (SW.of_mv (xs' := (mats σ rs hs).1) (σ' := (mats σ rs hs).2) fun B β w vs hm hw hv => ?_) SW.canon, by rw [← h]; exact rfl⟩
      obtain ⟨β', h1, h2, -⟩ := mats_sound rs hs [] σ β vs [] hw hv ⟨rfl, by simp⟩
      exact ⟨β', h1, h2⟩
  · simp only at e; subst e
    simp only [efin, Option.some.injEq] at h
    exact ⟨_, SW.canon (xs := []), by rw [← h]; exact rfl⟩

theorem efn0_sound (hH : HOK P H) (hS : SOK P S) {n : Nat} (hlp : S.lp = loopN n) {g : FuncId} {args : List PV} {r : VO × St} (h : efn0 P H S g args τ = some r) : PCalls P m g args τ (Ex r) := by
  unfold efn0 at h
  cases he : H.ext g with
  | some e =>
    rw [he] at h
    simp only [Option.map_eq_some_iff] at h
    obtain ⟨x, h1, rfl⟩ := h
    exact hH.ext g e he args x τ m h1
  | none =>
    rw [he] at h
    simp only at h
    cases hf : P.funcs[g]? with
    | none => rw [hf] at h; simp at h
    | some fn =>
      rw [hf] at h
      simp only at h
      cases hb : fn.body with
      | none => rw [hb] at h; simp at h
      | some c =>
        rw [hb] at h
        simp only at h
        split at h
        · rename_i hc
          obtain ⟨h1, h2⟩ := hH.fns g fn c hf hb hc.1
          refine PCalls.introS (H.tbl g) hH.mixed (N := fn.ntmps) (fn := fn) (c := c) (res := fn.results.toList) ⟨hf, hb, h1, rfl, rfl, h2⟩ hc.2 ?_
          cases hr : ebody P S fn.results.toList (ec P H g S τ.length c ⟨env0 args, [], τ⟩) with
          | none => rw [hr] at h; simp [efin] at h
          | some q =>
            rw [hr] at h
            obtain ⟨k1, k2⟩ := efin_sound h
            unfold ebody at hr
            split at hr
            · rename_i s hec
              exact ec_sound hS hlp c _ _ _ hec (leaves_ok hS _ _ _ q hr k1 k2)
            · rename_i s hec
              exact ec_sound hS hlp c _ _ _ hec (leaves_ok hS _ _ _ q hr k1 k2)
            · rename_i x s hec
              exact ec_sound hS hlp c _ _ _ hec (leaves_ok hS _ _ _ q hr k1 k2)
            · simp at hr
        · simp at h

theorem obEq_eq {a b : Ob} (h : obEq a b = true) : a = b := by
  cases a <;> cases b <;> simp [obEq] at h
  · obtain ⟨⟨⟨rfl, rfl⟩, rfl⟩, h4⟩ := h; rw [D.beqLL_eq h4]
  · obtain ⟨⟨rfl, rfl⟩, h4⟩ := h; rw [PV.beqL_eq h4]
  · subst h; rfl
theorem stEq_eq : ∀ {a b : St}, stEq a b = true → a = b
  | [], [], _ => rfl
  | [], _ :: _, h => by simp [stEq] at h
  | _ :: _, [], h => by simp [stEq] at h
  | x :: a, y :: b, h => by simp [stEq] at h; rw [obEq_eq h.1, stEq_eq h.2]
theorem resEq_eq {a b : VO × St} (h : resEq a b = true) : a = b := by
  obtain ⟨a, σ⟩ := a
  obtain ⟨b, τ⟩ := b
  cases a <;> cases b <;> simp [resEq] at h
  · rw [PV.beq_eq h.1, stEq_eq h.2]
  · rw [D.beq_eq h.1, stEq_eq h.2]
theorem efn_sound (hH : HOK P H) (hS : SOK P S) {n : Nat} (hlp : S.lp = loopN n) {g : FuncId} {args : List PV} {r : VO × St} (h : efn P H S g args τ = some r) : PCalls P m g args τ (Ex r) := by
  unfold efn at h
  split at h
  · rename_i hq
    simp only [Bool.and_eq_true] at hq
    cases h1 : efn0 P H S g [.nil] τ with
    | none => rw [h1] at h; simp [bothX] at h
    | some r1 =>
      cases h2 : efn0 P H S g [.nz] τ with
      | none => rw [h1, h2] at h; simp [bothX] at h
      | some r2 =>
        rw [h1, h2] at h
        simp only [bothX] at h
        split at h
        · rename_i he
          have := resEq_eq he
          subst this
          cases h
          have k1 := efn0_sound (m := m) hH hS hlp h1
          have k2 := efn0_sound (m := m) hH hS hlp h2
          have ha := hq.2
          unfold nilArg at ha
          split at ha
          · rename_i l
            have hl : l = [] := by simpa using ha
            subst hl
            intro B β w vals hm hw hv
            match vals, hv with
            | [v], hv =>
              have h0 := hv.2 0 _ v rfl rfl
              have one : ∀ x : PV, VRel β τ w (Zc B β τ w) x v → VRelL β τ w (Zc B β τ w) [x] [v] := fun x hx => ⟨rfl, fun j y u hj hu => by
                cases j with
                | zero => simp at hj hu; subst hj; subst hu; exact hx
                | succ j => simp at hj⟩
              cases h0 with
              | d _ _ hd =>
                cases hd with
                | fz0 a cap hc =>
                  cases a with
                  | none => have := hc rfl; subst this; exact k1 B β w _ hm hw (one _ .nil)
                  | some a => exact k2 B β w _ hm hw (one _ (.nz a cap))
                | fz _ b off cap sz f hcap => exact k2 B β w _ hm hw (one _ (.nz _ cap))
            | [], hv => exact absurd hv.1 (by simp)
            | _ :: _ :: _, hv => exact absurd hv.1 (by simp)
          · simp at ha
        · simp at h
  · exact efn0_sound hH hS hlp h

/-- A deferred function is through. -/
def DefK (m : Nat) (md : Option D) (R : Option D → St → Prop) : VX → VS → Prop
  | .normal, s => s.df = [] ∧ ∃ σ', SW m [] s.σ [] σ' ∧ R md σ'
  | .ret, s => s.df = [] ∧ ∃ σ', SW m [] s.σ [] σ' ∧ R md σ'
  | _, _ => False

theorem DefK_last {md : Option D} {R : Option D → St → Prop} (hw : WR B β σ w) {s : VS} {a : Act} {w1 : World} {β1 : Bt} {N : Nat} (h : s.df = [] ∧ ∃ σ', SW σ.length [] s.σ [] σ' ∧ R md σ') (hw1 : WR ⟨β, σ, w, Zc B β σ w⟩ β1 s.σ w1) (ha1 : ARel ⟨β, σ, w, Zc B β σ w⟩ β1 s.σ w1 N s.env s.df a) :
    a.defers = [] ∧ ∃ σ' β', R md σ' ∧ Mv B β σ w β' σ' w1 := by
  obtain ⟨hdf, σ2, hsw, hR⟩ := h
  refine ⟨List.eq_nil_of_length_eq_zero (by rw [← ha1.dfl, hdf]; rfl), ?_⟩
  obtain ⟨β2, hw2, -, -⟩ := hsw _ β1 w1 [] rfl hw1 ⟨rfl, by simp⟩
  exact ⟨σ2, β2, hR, (rebase hw hw2).1⟩

theorem PDefs.plainS (T : Tbl) {m : Nat} {x : DV} {fn : Func} {c : Code} {md : Option VL.D} {R : Option VL.D → St → Prop} (hm : P.follows .mixedOrders = true) (hfn : P.funcs[x.f]? = some fn) (hbody : fn.body = some c) (hname : (fn.name == "runtime.NumGoroutine") = false)
    (hdst : dstOk fn.ntmps (ordT T) c = true) (hres : fn.results = #[]) (hl : (x.args ++ x.captured).length ≤ fn.ntmps)
    (h : vwp P σ.length (drawH P σ.length T) c (DefK σ.length md R) ⟨env0 (x.args ++ x.captured), [], σ⟩) : PDefs P m x σ md R := by
  intro B β w va ca u hmB hw hva hca hmd
  have hname' : ¬ fn.name = "runtime.NumGoroutine" := by simpa using hname
  refine ⟨by simp [invoke, callFunc, hfn, hname', hbody], ?_⟩
  refine callsD_of_wpS hfn hbody ?_
  intro c₀ cs hc
  have hb := base_self hw
  have hargs : VRelL β σ w (Zc B β σ w) (x.args ++ x.captured) (va ++ ca) := hva.append hca
  have hv' : VRelL β σ w (Zc ⟨β, σ, w, Zc B β σ w⟩ β σ w) (x.args ++ x.captured) (va ++ ca) :=
    ⟨hargs.1, fun j x v hx hu => (hargs.2 j x v hx hu).mono (Ext.refl _ _) (fun _ _ _ _ h => h) (fun b hb => ⟨.inl hb, hb.2.1, hb.2.2⟩)⟩
  have hstart := start_rel (N := fn.ntmps) hb hv' hl
  refine wpS_of_wp ?_
  refine vwp_sound (B := ⟨β, σ, w, Zc B β σ w⟩) (drawH_ok hm) c _ _ _ _ w β hdst h ?_ hb hstart
  have last : ∀ (s : VS) (a : Act) (w1 : World) (β1 : Bt), (s.df = [] ∧ ∃ σ', SW σ.length [] s.σ [] σ' ∧ R md σ') → WR ⟨β, σ, w, Zc B β σ w⟩ β1 s.σ w1 → ARel ⟨β, σ, w, Zc B β σ w⟩ β1 s.σ w1 fn.ntmps s.env s.df a →
      a.defers = [] ∧ ∃ u'', c₀ :: cs = { c₀ with mode := u'' } :: cs ∧ ∃ y, (results fn a.tmps).run P w1 = .ok y w1 ∧ ∃ md' σ' β', R md' σ' ∧ Mv B β σ w β' σ' w1 ∧ ModeRel B β' σ' w1 md' (settle u'') := by
    intro s a w1 β1 hk hw1 ha1
    obtain ⟨h1, σ2, β2, hR, hmv⟩ := DefK_last hw hk hw1 ha1
    refine ⟨h1, u, by rw [← hc], .tuple #[], by simp [results, hres], md, σ2, β2, hR, hmv, ?_⟩
    cases md with
    | none =>
      cases u with
      | returning => trivial
      | _ => exact hmd.elim
    | some y =>
      cases u with
      | panicking ch =>
        obtain ⟨v, rfl, hd⟩ := hmd
        exact ⟨v, by simp [settle], hmv.drel hd⟩
      | _ => exact hmd.elim
  intro xx s e a w1 β1 hk hw1 ha1 hx
  cases xx with
  | normal => cases e <;> first | exact hx.elim | exact last s a w1 β1 hk hw1 ha1
  | ret => cases e <;> first | exact hx.elim | exact last s a w1 β1 hk hw1 ha1
  | exit i => exact hk.elim
  | panic y => exact hk.elim
end
end Go.VL
namespace Go.VL
open Go
section
variable {P : Program} {B : Base} {β β' : Bt} {σ σ' τ : St} {w w' : World} {Z : Nat → Prop} {S : Ora} {N m : Nat} {H : Hints}

theorem PDefs.catchS (T : Tbl) {m : Nat} {x : DV} {d : Tmp} {rest : Code} {md : Option VL.D} {R : Option VL.D → St → Prop} (hm : P.follows .mixedOrders = true) (hok : CatchOK P x.f N T d rest) (hl : (x.args ++ x.captured).length ≤ N)
    (h : vwp P σ.length (drawH P σ.length T) rest (DefK σ.length none R) ⟨putV (env0 (x.args ++ x.captured)) (some d) (recV md), [], σ⟩) : PDefs P m x σ md R := by
  obtain ⟨⟨fn, id, ty, pos, after, ctys, hfn, hbody, hname, hN, hres⟩, hdst, hlt⟩ := hok
  intro B β w va ca u hmB hw hva hca hmd
  have hname' : ¬ fn.name = "runtime.NumGoroutine" := by simpa using hname
  refine ⟨by simp [invoke, callFunc, hfn, hname', hbody], ?_⟩
  refine callsD_of_wpS hfn hbody ?_
  intro c₀ cs hc
  rw [hN]
  have hb := base_self hw
  have hargs : VRelL β σ w (Zc B β σ w) (x.args ++ x.captured) (va ++ ca) := hva.append hca
  have hv' : VRelL β σ w (Zc ⟨β, σ, w, Zc B β σ w⟩ β σ w) (x.args ++ x.captured) (va ++ ca) :=
    ⟨hargs.1, fun j x v hx hu => (hargs.2 j x v hx hu).mono (Ext.refl _ _) (fun _ _ _ _ h => h) (fun b hb => ⟨.inl hb, hb.2.1, hb.2.2⟩)⟩
  have hstart := start_rel (N := N) hb hv' hl
  have hzz : ∀ b, Zc B β σ w b → Zc ⟨β, σ, w, Zc B β σ w⟩ β σ w b := fun b hb => ⟨.inl hb, hb.2.1, hb.2.2⟩
  -- what was recovered
  have hrec : ∃ v u', VRel β σ w (Zc ⟨β, σ, w, Zc B β σ w⟩ β σ w) (recV md) v ∧ settle u' = .returning ∧
      (match recoverD (c₀ :: cs) with
        | some (y, cs') => y = v ∧ cs' = { c₀ with mode := u' } :: cs
        | none => v = .nilIface ∧ { c₀ with mode := u' } = c₀) := by
    cases md with
    | none =>
      cases u with
      | returning => exact ⟨.nilIface, .returning, .d _ _ .nili, rfl, by simp only [recoverD, hc]; exact ⟨trivial, by rw [← hc]⟩⟩
      | _ => exact hmd.elim
    | some y =>
      cases u with
      | panicking ch =>
        obtain ⟨v, rfl, hd⟩ := hmd
        exact ⟨v, .panicking [{ v := v, recovered := true }], .d _ _ (hd.mono (fun _ _ _ _ h => h) hzz), rfl, by simp [recoverD, hc]⟩
      | _ => exact hmd.elim
  obtain ⟨v, u', hv, hset, hrd⟩ := hrec
  refine wpS_seq (wpS_region ?_)
  have fin : ∀ cs', cs' = { c₀ with mode := u' } :: cs → Exit.thenS (rest.wpS P (bodyPostS P fn c₀ cs fun e u' w' => match e with
      | .returned _ => ∃ md' σ' β', R md' σ' ∧ Mv B β σ w β' σ' w' ∧ ModeRel B β' σ' w' md' (settle u')
      | .panicked ch => ∃ md' σ' β', R md' σ' ∧ Mv B β σ w β' σ' w' ∧ ModeRel B β' σ' w' md' (raised u' ch)
      | .outgrown => False)) (bodyPostS P fn c₀ cs fun e u' w' => match e with
      | .returned _ => ∃ md' σ' β', R md' σ' ∧ Mv B β σ w β' σ' w' ∧ ModeRel B β' σ' w' md' (settle u')
      | .panicked ch => ∃ md' σ' β', R md' σ' ∧ Mv B β σ w β' σ' w' ∧ ModeRel B β' σ' w' md' (raised u' ch)
      | .outgrown => False) .normal (Act.put { tmps := (va ++ ca).toArray ++ Array.replicate (N - (va ++ ca).toArray.size) undef, defers := [] } (some d) v) cs' w := by
    rintro cs' rfl
    refine wpS_of_wp ?_
    refine vwp_sound (B := ⟨β, σ, w, Zc B β σ w⟩) (drawH_ok hm) rest _ _ _ _ w β hdst h ?_ hb (ARel.put (dst := some d) hstart hv (fun e he => by cases he; exact hlt))
    have last : ∀ (s : VS) (a : Act) (w1 : World) (β1 : Bt), (s.df = [] ∧ ∃ σ', SW σ.length [] s.σ [] σ' ∧ R none σ') → WR ⟨β, σ, w, Zc B β σ w⟩ β1 s.σ w1 → ARel ⟨β, σ, w, Zc B β σ w⟩ β1 s.σ w1 N s.env s.df a →
        a.defers = [] ∧ ∃ u'', { c₀ with mode := u' } :: cs = { c₀ with mode := u'' } :: cs ∧ ∃ y, (results fn a.tmps).run P w1 = .ok y w1 ∧ ∃ md' σ' β', R md' σ' ∧ Mv B β σ w β' σ' w1 ∧ ModeRel B β' σ' w1 md' (settle u'') := by
      intro s a w1 β1 hk hw1 ha1
      obtain ⟨h1, σ2, β2, hR, hmv⟩ := DefK_last hw hk hw1 ha1
      refine ⟨h1, u', rfl, .tuple #[], by simp [results, hres], none, σ2, β2, hR, hmv, ?_⟩
      rw [hset]; trivial
    intro xx s e a w1 β1 hk hw1 ha1 hx
    cases xx with
    | normal => cases e <;> first | exact hx.elim | exact last s a w1 β1 hk hw1 ha1
    | ret => cases e <;> first | exact hx.elim | exact last s a w1 β1 hk hw1 ha1
    | exit i => exact hk.elim
    | panic y => exact hk.elim
  have hrange : List.range (#[(⟨some d, .call ⟨.builtin .recover, #[], ctys⟩, ty, pos, after, none⟩ : Oper)]).size = [0] := rfl
  rw [hrange]
  simp only [wpOpsS, List.getElem?_toArray, List.getElem?_cons_zero, Region.wanted, if_true]
  have hrun : ∀ (a : Act) , (execOp a.eval ⟨some d, .call ⟨.builtin .recover, #[], ctys⟩, ty, pos, after, none⟩).run P w = .ok .recover w := by
    intro a; simp [execOp, resolve, invoke]; rfl
  rw [hrun]
  simp only
  cases hq : recoverD (c₀ :: cs) with
  | none =>
    rw [hq] at hrd
    obtain ⟨rfl, h2⟩ := hrd
    exact fin (c₀ :: cs) (by rw [h2])
  | some r =>
    obtain ⟨y, cs'⟩ := r
    rw [hq] at hrd
    obtain ⟨rfl, h2⟩ := hrd
    exact fin cs' h2

theorem dfin_sound {md : Option D} {k : Res} {r : Option D × St} {σ0 : St} (h : dfin m md k = some r) : ∃ q : VX × VS, k = some q ∧ DefK m md (ExD r) q.1 q.2 := by
  unfold dfin at h
  split at h
  · rename_i s
    split at h
    · rename_i hl
      cases h
      exact ⟨_, rfl, List.eq_nil_of_length_eq_zero hl, _, SW.canon (xs := []), rfl⟩
    · simp at h
  · rename_i s
    split at h
    · rename_i hl
      cases h
      exact ⟨_, rfl, List.eq_nil_of_length_eq_zero hl, _, SW.canon (xs := []), rfl⟩
    · simp at h
  · simp at h

theorem recOf_some {c rest : Code} {t : Tmp} (h : recOf c = some (t, rest)) : ∃ id ty pos after ctys, c = .seq (.region id #[⟨some t, .call ⟨.builtin .recover, #[], ctys⟩, ty, pos, after, none⟩] false) rest := by
  unfold recOf at h
  split at h
  · rename_i id ops rest'
    split at h
    · rename_i d as ctys ty pos after ho
      split at h
      · rename_i hs
        cases h
        have e : ops = #[⟨some t, .call ⟨.builtin .recover, as, ctys⟩, ty, pos, after, none⟩] := by
          apply Array.ext'; simpa using ho
        have e2 : as = #[] := Array.eq_empty_of_size_eq_zero hs
        subst e2; subst e
        exact ⟨id, ty, pos, after, ctys, rfl⟩
      · simp at h
    · simp at h
  · simp at h

theorem edf_sound (hH : HOK P H) (hS : SOK P S) {n : Nat} (hlp : S.lp = loopN n) {x : DV} {md : Option D} {r : Option D × St} (h : edf P H S x τ md = some r) : PDefs P m x τ md (ExD r) := by
  unfold edf at h
  cases hf : P.funcs[x.f]? with
  | none => rw [hf] at h; simp at h
  | some fn =>
    rw [hf] at h
    simp only at h
    cases hb : fn.body with
    | none => rw [hb] at h; simp at h
    | some c =>
      rw [hb] at h
      simp only at h
      split at h
      · rename_i hc
        obtain ⟨hhas, hlen, hres⟩ := hc
        obtain ⟨h1, h2⟩ := hH.fns x.f fn c hf hb hhas
        have hres' : fn.results = #[] := Array.eq_empty_of_size_eq_zero hres
        cases hrc : recOf c with
        | none =>
          rw [hrc] at h
          simp only at h
          obtain ⟨q, hq, hk⟩ := dfin_sound (σ0 := τ) h
          exact PDefs.plainS (H.tbl x.f) hH.mixed hf hb h1 h2 hres' hlen (ec_sound hS hlp c _ _ _ hq hk)
        | some tr =>
          obtain ⟨t, rest⟩ := tr
          rw [hrc] at h
          simp only at h
          obtain ⟨q, hq, hk⟩ := dfin_sound (σ0 := τ) h
          obtain ⟨id, ty, pos, after, ctys, rfl⟩ := recOf_some hrc
          simp only [dstOk, Bool.and_eq_true] at h2
          have hlt : t < fn.ntmps := by
            have := h2.1
            simp at this; exact this
          exact PDefs.catchS (H.tbl x.f) hH.mixed ⟨⟨fn, id, ty, pos, after, ctys, hf, hb, h1, rfl, hres'⟩, h2.2, hlt⟩ hlen (ec_sound hS hlp rest _ _ _ hq hk)
      · simp at h

/-- The oracle tells the truth, however far it goes. -/
theorem evn_ok (hH : HOK P H) : ∀ n, SOK P (evn P H n) ∧ (evn P H n).lp = loopN n
  | 0 => ⟨⟨fun _ _ _ _ _ h => by simp [evn] at h, fun _ _ _ _ _ h => by simp [evn] at h⟩, rfl⟩
  | n + 1 => by
    obtain ⟨h1, h2⟩ := evn_ok hH n
    exact ⟨⟨fun g xs τ r m h => efn_sound hH h1 h2 h, fun x τ md r m h => edf_sound hH h1 h2 h⟩, rfl⟩
end
end Go.VL
namespace Go.VL
open Go

/-- From some number on. -/
def Ev {α : Type} (x : Nat → Option α) (r : α) : Prop := ∃ N, ∀ n, N ≤ n → x n = some r
theorem Ev.const {α : Type} {x : Option α} {r : α} (h : x = some r) : Ev (fun _ => x) r := ⟨0, fun _ _ => h⟩
theorem Ev.bind {α β : Type} {x : Nat → Option α} {r : α} {F : Nat → Option α → Option β} {q : β} (h : Ev x r) (h' : Ev (fun n => F n (some r)) q) : Ev (fun n => F n (x n)) q := by
  obtain ⟨N, h1⟩ := h
  obtain ⟨M, h2⟩ := h'
  exact ⟨max N M, fun n hn => by show F n (x n) = some q; rw [h1 n (by omega)]; exact h2 n (by omega)⟩
theorem Ev.det {α : Type} {x : Nat → Option α} {r r' : α} (h : Ev x r) (h' : Ev x r') : r = r' := by
  obtain ⟨N, h1⟩ := h
  obtain ⟨M, h2⟩ := h'
  have := h1 (max N M) (by omega)
  rw [h2 (max N M) (by omega)] at this
  exact (Option.some.inj this).symm

/-- Oracles that come up to another one. -/
structure Cont (S0 : Ora) (S : Nat → Ora) : Prop where
  f : ∀ g xs τ r, S0.f g xs τ = some r → Ev (fun n => (S n).f g xs τ) r
  d : ∀ x τ md r, S0.d x τ md = some r → Ev (fun n => (S n).d x τ md) r
  lp : ∀ can (b0 : VS → Res) (b : Nat → VS → Res), (∀ s q, b0 s = some q → Ev (fun n => b n s) q) → ∀ s q, S0.lp can b0 s = some q → Ev (fun n => (S n).lp can (b n) s) q

section
variable {P : Program} {H : Hints} {S0 : Ora} {S : Nat → Ora} {m : Nat} {σ τ : St} {s : VS}

theorem thenX_cont {r0 : Res} {r : Nat → Res} {k0 : VS → Res} {k : Nat → VS → Res} {q : VX × VS} (h : thenX r0 k0 = some q) (hr : ∀ q, r0 = some q → Ev r q) (hk : ∀ s q, k0 s = some q → Ev (fun n => k n s) q) : Ev (fun n => thenX (r n) (k n)) q := by
  rcases thenX_some h with ⟨s1, h1, h2⟩ | ⟨h1, h2⟩
  · exact (hr _ h1).bind (F := fun n x => thenX x (k n)) (by simpa [thenX] using hk s1 q h2)
  · refine (hr _ h1).bind (F := fun n x => thenX x (k n)) ⟨0, fun n _ => ?_⟩
    obtain ⟨x, s1⟩ := q
    cases x with
    | normal => exact absurd rfl h2
    | _ => rfl

theorem ecall_cont (hc : Cont S0 S) {g : FuncId} {xs : List PV} {r : VO × St} (h : ecall H S0 m g xs σ = some r) : Ev (fun n => ecall H (S n) m g xs σ) r := by
  unfold ecall at h ⊢
  cases hys : closeA σ (H.own g) 0 xs with
  | none => rw [hys] at h; simp [ecall1] at h
  | some ys =>
    rw [hys] at h
    simp only [ecall1, ecall2] at h ⊢
    by_cases hre : reach σ 0 ys = []
    · simp only [if_pos hre] at h ⊢
      cases hf : S0.f g (canon σ 0 ys).1 (canon σ 0 ys).2 with
      | none => rw [hf] at h; simp [callF] at h
      | some q => rw [hf] at h; exact (hc.f _ _ _ _ hf).bind (F := fun _ x => callF m σ (closedA (H.own g) 0 xs) x) (Ev.const h)
    · simp only [if_neg hre] at h ⊢
      split at h
      · rename_i hall
        simp only [if_pos hall]
        simp only [callB] at h ⊢
        cases hf : S0.f g (canon (frzL σ (closedA (H.own g) 0 xs)) 0 ys).1 (canon (frzL σ (closedA (H.own g) 0 xs)) 0 ys).2 with
        | none => rw [hf] at h; simp [mergeO] at h
        | some q =>
          rw [hf] at h
          exact (hc.f _ _ _ _ hf).bind (F := fun _ x => mergeO (frzL σ (closedA (H.own g) 0 xs)) (reach (frzL σ (closedA (H.own g) 0 xs)) 0 ys) x) (Ev.const h)
      · simp at h

theorem estep_cont (hc : Cont S0 S) {o : Oper} {q : VX × VS} (h : estep P H S0 m o s = some q) : Ev (fun n => estep P H (S n) m o s) q := by
  obtain ⟨dst, op, type, pos, after, guard⟩ := o
  cases op with
  | call c =>
    obtain ⟨callee, cargs, ctys⟩ := c
    cases callee with
    | value f =>
      simp only [estep] at h ⊢
      cases hf : fnOf (veval s.env f) with
      | none => rw [hf] at h; simp [fnX] at h
      | some r =>
        obtain ⟨g, a, b⟩ := r
        rw [hf] at h
        simp only [fnX] at h ⊢
        cases hq : ecall H S0 m g (a ++ cargs.toList.map (veval s.env) ++ b) s.σ with
        | none => rw [hq] at h; simp [callX] at h
        | some r => rw [hq] at h; exact (ecall_cont hc hq).bind (F := fun _ x => callX dst s x) (Ev.const h)
    | _ => exact Ev.const h
  | _ => exact Ev.const h

theorem eops_cont (hc : Cont S0 S) {ops : Array Oper} : ∀ (l : List Oper) (s : VS) (q : VX × VS), eops P H S0 m ops l s = some q → Ev (fun n => eops P H (S n) m ops l s) q
  | [], s, q, h => Ev.const h
  | o :: rest, s, q, h => by
    simp only [eops] at h ⊢
    have step : thenX (estep P H S0 m o s) (eops P H S0 m ops rest) = some q → Ev (fun n => thenX (estep P H (S n) m o s) (eops P H (S n) m ops rest)) q :=
      fun h => thenX_cont h (fun q hq => estep_cont hc hq) (fun s q hq => eops_cont hc rest s q hq)
    cases hg : o.guard with
    | none => rw [hg] at h; exact step h
    | some g =>
      obtain ⟨j, want⟩ := g
      rw [hg] at h
      simp only at h ⊢
      cases hv : guardV ops s.env j with
      | none => rw [hv] at h; simp at h
      | some b =>
        rw [hv] at h
        simp only at h ⊢
        by_cases e : b = some want
        · simp only [if_pos e] at h ⊢; exact step h
        · simp only [if_neg e] at h ⊢; exact eops_cont hc rest _ q h

theorem edr_cont (hc : Cont S0 S) {ops : Array Oper} {E : List Nat} : ∀ (L : List (Nat × List Nat)) (s : VS) (q : VX × VS), edr P H S0 m ops E L s = some q → Ev (fun n => edr P H (S n) m ops E L s) q
  | [], s, q, h => Ev.const h
  | (i, pend) :: rest, s, q, h => by
    simp only [edr] at h ⊢
    cases ho : ops[i]? with
    | none => rw [ho] at h; simp at h
    | some o =>
      rw [ho] at h
      simp only at h ⊢
      have step : edo P H S0 m ops (E.contains i) o pend (edr P H S0 m ops E rest) s = some q → Ev (fun n => edo P H (S n) m ops (E.contains i) o pend (edr P H (S n) m ops E rest) s) q := by
        intro h
        unfold edo at h ⊢
        by_cases he : E.contains i = true
        · simp only [if_pos he] at h ⊢
          refine thenX_cont h (fun q hq => ?_) (fun s q hq => ?_)
          · cases hs : estep P H S0 m o s with
            | none => rw [hs] at hq; simp [wipeX] at hq
            | some r => rw [hs] at hq; exact (estep_cont hc hs).bind (F := fun _ x => wipeX ops x) (Ev.const hq)
          · unfold pendX at hq ⊢
            split at hq
            · rename_i ha; simp only [if_pos ha]; exact edr_cont hc rest s q hq
            · simp at hq
        · simp only [if_neg he] at h ⊢
          split at h
          · rename_i hr
            simp only [if_pos hr]
            exact thenX_cont h (fun q hq => Ev.const hq) (fun s q hq => edr_cont hc rest s q hq)
          · simp at h
      cases hg : o.guard with
      | none => rw [hg] at h; exact step h
      | some g =>
        obtain ⟨j, want⟩ := g
        rw [hg] at h
        simp only at h ⊢
        cases hv : guardV ops s.env j with
        | none => rw [hv] at h; simp at h
        | some b =>
          rw [hv] at h
          simp only at h ⊢
          by_cases e : b = some want
          · simp only [if_pos e] at h ⊢; exact step h
          · simp only [if_neg e] at h ⊢; exact edr_cont hc rest _ q h

theorem ec_cont (hc : Cont S0 S) {g : FuncId} : ∀ (c : Code) (s : VS) (q : VX × VS), ec P H g S0 m c s = some q → Ev (fun n => ec P H g (S n) m c s) q := by
  intro c
  induction c with
  | seq a b iha ihb =>
    intro s q h
    simp only [ec] at h ⊢
    exact thenX_cont h (fun q hq => iha s q hq) (fun s q hq => ihb s q hq)
  | region id ops draw =>
    intro s q h
    cases draw with
    | false => simp only [ec] at h ⊢; exact eops_cont hc _ s q h
    | true =>
      simp only [ec] at h ⊢
      cases hl : (H.tbl g).lookup id with
      | none => rw [hl] at h; simp [edrT] at h
      | some r => obtain ⟨E, L⟩ := r; rw [hl] at h; exact edr_cont hc L s q h
  | cond c x y ihx ihy =>
    intro s q h
    simp only [ec] at h ⊢
    cases hb : boolOf (veval s.env c) with
    | none => rw [hb] at h; simp [condX] at h
    | some b =>
      rw [hb] at h
      simp only [condX] at h ⊢
      by_cases e : b = true
      · simp only [if_pos e] at h ⊢; exact ihx s q h
      · simp only [if_neg e] at h ⊢; exact ihy s q h
  | block id c ih =>
    intro s q h
    simp only [ec] at h ⊢
    cases hq : ec P H g S0 m c s with
    | none => rw [hq] at h; simp [blkX] at h
    | some r => rw [hq] at h; exact (ih s r hq).bind (F := fun _ x => blkX id x) (Ev.const h)
  | loop c ih =>
    intro s q h
    simp only [ec] at h ⊢
    exact hc.lp _ _ _ (fun s q hq => ih s q hq) s q h
  | _ => intro s q h; exact Ev.const h

theorem edcall_cont (hc : Cont S0 S) {x : DV} {md : Option D} {r : Option D × St} (h : edcall S0 x σ md = some r) : Ev (fun n => edcall (S n) x σ md) r := by
  unfold edcall at h ⊢
  cases hd : S0.d ⟨x.f, (canon σ 0 (x.captured ++ x.args)).1.take x.captured.length, (canon σ 0 (x.captured ++ x.args)).1.drop x.captured.length⟩ (canon σ 0 (x.captured ++ x.args)).2 md with
  | none => rw [hd] at h; simp [mergeD] at h
  | some q => rw [hd] at h; exact (hc.d _ _ _ _ hd).bind (F := fun _ y => mergeD σ (reach σ 0 (x.captured ++ x.args)) y) (Ev.const h)

theorem eleaves_cont (hc : Cont S0 S) {res : List ResultVar} {env : Env} : ∀ (ds : List DV) (md : Option D) (σ : St) (q : (List PV ⊕ D) × St), eleaves P S0 res env ds md σ = some q → Ev (fun n => eleaves P (S n) res env ds md σ) q
  | [], none, σ, q, h => Ev.const h
  | [], some x, σ, q, h => Ev.const h
  | d :: ds, md, σ, q, h => by
    simp only [eleaves] at h ⊢
    cases hd : edcall S0 d σ md with
    | none => rw [hd] at h; simp [leafK] at h
    | some r =>
      obtain ⟨md', σ'⟩ := r
      rw [hd] at h
      exact (edcall_cont hc hd).bind (F := fun n x => leafK (eleaves P (S n) res env ds) x) (eleaves_cont hc ds md' σ' q h)

theorem ebody_cont (hc : Cont S0 S) {res : List ResultVar} {r : Nat → Res} {r0 : Res} {q : (List PV ⊕ D) × St} (hr : ∀ q, r0 = some q → Ev r q) (h : ebody P S0 res r0 = some q) : Ev (fun n => ebody P (S n) res (r n)) q := by
  unfold ebody at h
  split at h
  · rename_i s; exact (hr _ rfl).bind (F := fun n x => ebody P (S n) res x) (by simpa [ebody] using eleaves_cont hc _ _ _ q h)
  · rename_i s; exact (hr _ rfl).bind (F := fun n x => ebody P (S n) res x) (by simpa [ebody] using eleaves_cont hc _ _ _ q h)
  · rename_i x s; exact (hr _ rfl).bind (F := fun n x => ebody P (S n) res x) (by simpa [ebody] using eleaves_cont hc _ _ _ q h)
  · simp at h

theorem efn0_cont (hc : Cont S0 S) {g : FuncId} {args : List PV} {r : VO × St} (h : efn0 P H S0 g args τ = some r) : Ev (fun n => efn0 P H (S n) g args τ) r := by
  unfold efn0 at h ⊢
  cases he : H.ext g with
  | some e => rw [he] at h; exact Ev.const h
  | none =>
    rw [he] at h
    simp only at h ⊢
    cases hf : P.funcs[g]? with
    | none => rw [hf] at h; simp at h
    | some fn =>
      rw [hf] at h
      simp only at h ⊢
      cases hb : fn.body with
      | none => rw [hb] at h; simp at h
      | some c =>
        rw [hb] at h
        simp only at h ⊢
        split at h
        · rename_i hcc
          simp only [if_pos hcc]
          cases hr : ebody P S0 fn.results.toList (ec P H g S0 τ.length c ⟨env0 args, [], τ⟩) with
          | none => rw [hr] at h; simp [efin] at h
          | some q =>
            rw [hr] at h
            exact (ebody_cont hc (fun q hq => ec_cont hc c _ q hq) hr).bind (F := fun _ x => efin τ.length (H.keep g) x) (Ev.const h)
        · simp at h

theorem efn_cont (hc : Cont S0 S) {g : FuncId} {args : List PV} {r : VO × St} (h : efn P H S0 g args τ = some r) : Ev (fun n => efn P H (S n) g args τ) r := by
  unfold efn at h ⊢
  split at h
  · rename_i hq
    simp only [if_pos hq]
    cases h1 : efn0 P H S0 g [.nil] τ with
    | none => rw [h1] at h; simp [bothX] at h
    | some r1 =>
      cases h2 : efn0 P H S0 g [.nz] τ with
      | none => rw [h1, h2] at h; simp [bothX] at h
      | some r2 =>
        rw [h1, h2] at h
        exact (efn0_cont hc h1).bind (F := fun n x => bothX x (efn0 P H (S n) g [.nz] τ)) ((efn0_cont hc h2).bind (F := fun _ x => bothX (some r1) x) (Ev.const h))
  · rename_i hq
    simp only [if_neg hq]
    exact efn0_cont hc h

theorem edf_cont (hc : Cont S0 S) {x : DV} {md : Option D} {r : Option D × St} (h : edf P H S0 x τ md = some r) : Ev (fun n => edf P H (S n) x τ md) r := by
  have fin : ∀ {c : Code} {s : VS} {md : Option D}, dfin τ.length md (ec P H x.f S0 τ.length c s) = some r → Ev (fun n => dfin τ.length md (ec P H x.f (S n) τ.length c s)) r := by
    intro c s md h
    cases hq : ec P H x.f S0 τ.length c s with
    | none => rw [hq] at h; simp [dfin] at h
    | some q => rw [hq] at h; exact (ec_cont hc c s q hq).bind (F := fun _ y => dfin τ.length md y) (Ev.const h)
  unfold edf at h ⊢
  cases hf : P.funcs[x.f]? with
  | none => rw [hf] at h; simp at h
  | some fn =>
    rw [hf] at h
    simp only at h ⊢
    cases hb : fn.body with
    | none => rw [hb] at h; simp at h
    | some c =>
      rw [hb] at h
      simp only at h ⊢
      split at h
      · rename_i hcc
        simp only [if_pos hcc]
        cases hrc : recOf c with
        | none => rw [hrc] at h; exact fin h
        | some tr => obtain ⟨t, rest⟩ := tr; rw [hrc] at h; exact fin h
      · simp at h
end

/-! The limit -/
open Classical in
noncomputable def lim {α : Type} (x : Nat → Option α) : Option α := if h : ∃ r, Ev x r then some (Classical.choose h) else none
theorem lim_iff {α : Type} {x : Nat → Option α} {r : α} : lim x = some r ↔ Ev x r := by
  unfold lim
  constructor
  · intro h
    split at h
    · rename_i he; cases h; exact Classical.choose_spec he
    · simp at h
  · intro h
    have he : ∃ r, Ev x r := ⟨r, h⟩
    rw [dif_pos he]
    congr 1
    exact (Classical.choose_spec he).det h

noncomputable def SL (P : Program) (H : Hints) : Ora :=
  ⟨fun g xs τ => lim fun n => (evn P H n).f g xs τ, fun x τ md => lim fun n => (evn P H n).d x τ md, fun can body s => lim fun n => loopN n can body s⟩

theorem loop_cont {can : VS → Option VS} {b0 : VS → Res} {b : Nat → VS → Res} (hb : ∀ s q, b0 s = some q → Ev (fun n => b n s) q) : ∀ (k : Nat) (s : VS) (q : VX × VS), loopN k can b0 s = some q → Ev (fun n => loopN n can (b n) s) q
  | 0, s, q, h => by simp [loopN] at h
  | k + 1, s, q, h => by
    -- more fuel, at each body near enough
    have gen : ∀ (k : Nat) (s : VS) (q : VX × VS), loopN k can b0 s = some q → ∃ M, ∀ n, M ≤ n → ∀ j, k ≤ j → loopN j can (b n) s = some q := by
      intro k
      induction k with
      | zero => intro s q h; simp [loopN] at h
      | succ k ih =>
        intro s q h
        simp only [loopN] at h
        split at h
        · rename_i s' hs
          rcases thenX_some h with ⟨s1, h1, h2⟩ | ⟨h1, h2⟩
          · obtain ⟨N, hN⟩ := hb s' _ h1
            obtain ⟨M, hM⟩ := ih s1 q h2
            refine ⟨max N M, fun n hn j hj => ?_⟩
            obtain ⟨j, rfl⟩ : ∃ j', j = j' + 1 := ⟨j - 1, by omega⟩
            simp only [loopN, hs]
            rw [show b n s' = _ from hN n (by omega)]
            exact hM n (by omega) j (by omega)
          · obtain ⟨N, hN⟩ := hb s' _ h1
            refine ⟨N, fun n hn j hj => ?_⟩
            obtain ⟨j, rfl⟩ : ∃ j', j = j' + 1 := ⟨j - 1, by omega⟩
            simp only [loopN, hs]
            rw [show b n s' = _ from hN n (by omega)]
            obtain ⟨x, s1⟩ := q
            cases x with
            | normal => exact absurd rfl h2
            | _ => rfl
        · simp at h
    obtain ⟨M, hM⟩ := gen (k + 1) s q h
    exact ⟨max M (k + 1), fun n hn => hM n (by omega) n (by omega)⟩

theorem loopN_mono {can : VS → Option VS} {body : VS → Res} : ∀ (k : Nat) (s : VS) (q : VX × VS), loopN k can body s = some q → ∀ j, k ≤ j → loopN j can body s = some q
  | 0, s, q, h, _, _ => by simp [loopN] at h
  | k + 1, s, q, h, j, hj => by
    obtain ⟨j, rfl⟩ : ∃ j', j = j' + 1 := ⟨j - 1, by omega⟩
    simp only [loopN] at h ⊢
    split at h
    · rename_i s' hs
      rcases thenX_some h with ⟨s1, h1, h2⟩ | ⟨h1, h2⟩
      · rw [h1]; exact loopN_mono k s1 q h2 j (by omega)
      · rw [h1]
        obtain ⟨x, s1⟩ := q
        cases x with
        | normal => exact absurd rfl h2
        | _ => rfl
    · simp at h

section
variable {P : Program} {H : Hints}

theorem SL_cont : Cont (SL P H) (evn P H) := by
  refine ⟨fun g xs τ r h => lim_iff.1 h, fun x τ md r h => lim_iff.1 h, fun can b0 b hb s q h => ?_⟩
  obtain ⟨N, hN⟩ := lim_iff.1 h
  obtain ⟨M, hM⟩ := loop_cont hb N s q (hN N (Nat.le_refl _))
  refine ⟨max M 1, fun n hn => ?_⟩
  have : (evn P H n).lp = loopN n := by
    cases n with
    | zero => rfl
    | succ n => rfl
  show (evn P H n).lp can (b n) s = some q
  rw [this]; exact hM n (by omega)

/-- What a body comes to at last, the function comes to. -/
theorem SL_f {g : FuncId} {xs : List PV} {τ : St} {r : VO × St} (h : efn P H (SL P H) g xs τ = some r) : (SL P H).f g xs τ = some r := by
  obtain ⟨N, hN⟩ := efn_cont SL_cont h
  refine lim_iff.2 ⟨N + 1, fun n hn => ?_⟩
  obtain ⟨n, rfl⟩ : ∃ n', n = n' + 1 := ⟨n - 1, by omega⟩
  exact hN n (by omega)
theorem SL_d {x : DV} {τ : St} {md : Option D} {r : Option D × St} (h : edf P H (SL P H) x τ md = some r) : (SL P H).d x τ md = some r := by
  obtain ⟨N, hN⟩ := edf_cont SL_cont h
  refine lim_iff.2 ⟨N + 1, fun n hn => ?_⟩
  obtain ⟨n, rfl⟩ : ∃ n', n = n' + 1 := ⟨n - 1, by omega⟩
  exact hN n (by omega)
/-- A loop goes round. -/
theorem SL_lp {can : VS → Option VS} {body : VS → Res} {s : VS} {q : VX × VS} (h : (match can s with
    | some s' => thenX (body s') ((SL P H).lp can body)
    | none => none) = some q) : (SL P H).lp can body s = some q := by
  cases hc : can s with
  | none => rw [hc] at h; simp at h
  | some s' =>
    rw [hc] at h
    simp only at h
    rcases thenX_some h with ⟨s1, h1, h2⟩ | ⟨h1, h2⟩
    · obtain ⟨N, hN⟩ := lim_iff.1 h2
      refine lim_iff.2 ⟨N + 1, fun n hn => ?_⟩
      obtain ⟨n, rfl⟩ : ∃ n', n = n' + 1 := ⟨n - 1, by omega⟩
      simp only [loopN, hc, h1]
      exact loopN_mono N s1 q (hN N (Nat.le_refl _)) n (by omega)
    · refine lim_iff.2 ⟨1, fun n hn => ?_⟩
      obtain ⟨n, rfl⟩ : ∃ n', n = n' + 1 := ⟨n - 1, by omega⟩
      simp only [loopN, hc, h1]
      obtain ⟨x, s1⟩ := q
      cases x with
      | normal => exact absurd rfl h2
      | _ => rfl

/-- More fuel tells the same. -/
theorem evn_mono : ∀ n, (∀ g xs τ r, (evn P H n).f g xs τ = some r → (evn P H (n + 1)).f g xs τ = some r) ∧ (∀ x τ md r, (evn P H n).d x τ md = some r → (evn P H (n + 1)).d x τ md = some r)
  | 0 => ⟨fun _ _ _ _ h => by simp [evn] at h, fun _ _ _ _ h => by simp [evn] at h⟩
  | n + 1 => by
    obtain ⟨h1, h2⟩ := evn_mono n
    have hc : Cont (evn P H n) (fun _ => evn P H (n + 1)) := by
      refine ⟨fun g xs τ r h => Ev.const (h1 g xs τ r h), fun x τ md r h => Ev.const (h2 x τ md r h), fun can b0 b hb s q h => ?_⟩
      have hn : (evn P H n).lp = loopN n := by cases n <;> rfl
      rw [hn] at h
      have gen : ∀ (k : Nat) (s : VS) (q : VX × VS), loopN k can b0 s = some q → ∃ M, ∀ n, M ≤ n → ∀ j, k ≤ j → loopN j can (b n) s = some q := by
        intro k
        induction k with
        | zero => intro s q h; simp [loopN] at h
        | succ k ih =>
          intro s q h
          simp only [loopN] at h
          split at h
          · rename_i s' hs
            rcases thenX_some h with ⟨s1, h1, h2⟩ | ⟨h1, h2⟩
            · obtain ⟨N, hN⟩ := hb s' _ h1
              obtain ⟨M, hM⟩ := ih s1 q h2
              refine ⟨max N M, fun n hn j hj => ?_⟩
              obtain ⟨j, rfl⟩ : ∃ j', j = j' + 1 := ⟨j - 1, by omega⟩
              simp only [loopN, hs]
              rw [show b n s' = _ from hN n (by omega)]
              exact hM n (by omega) j (by omega)
            · obtain ⟨N, hN⟩ := hb s' _ h1
              refine ⟨N, fun n hn j hj => ?_⟩
              obtain ⟨j, rfl⟩ : ∃ j', j = j' + 1 := ⟨j - 1, by omega⟩
              simp only [loopN, hs]
              rw [show b n s' = _ from hN n (by omega)]
              obtain ⟨x, s1⟩ := q
              cases x with
              | normal => exact absurd rfl h2
              | _ => rfl
          · simp at h
      obtain ⟨M, hM⟩ := gen n s q h
      exact ⟨M, fun i hi => hM i hi (n + 1) (by omega)⟩
    refine ⟨fun g xs τ r h => ?_, fun x τ md r h => ?_⟩
    · obtain ⟨N, hN⟩ := efn_cont hc (g := g) (args := xs) (τ := τ) (r := r) h
      exact hN N (Nat.le_refl _)
    · obtain ⟨N, hN⟩ := edf_cont hc (x := x) (md := md) (τ := τ) (r := r) h
      exact hN N (Nat.le_refl _)

/-- Worked out with some fuel, it is so. -/
theorem SL_run (n : Nat) {g : FuncId} {xs : List PV} {τ : St} {r : VO × St} (h : (evn P H n).f g xs τ = some r) : (SL P H).f g xs τ = some r := by
  refine lim_iff.2 ⟨n, fun k hk => ?_⟩
  induction k with
  | zero => have : n = 0 := by omega
            subst this; exact h
  | succ k ih =>
    rcases Nat.lt_or_ge k n with h1 | h1
    · have : n = k + 1 := by omega
      subst this; exact h
    · exact (evn_mono k).1 _ _ _ _ (ih h1)

/-- It tells the truth. -/
theorem SL_ok (hH : HOK P H) : SOK P (SL P H) := by
  refine ⟨fun g xs τ r m h => ?_, fun x τ md r m h => ?_⟩
  · obtain ⟨N, hN⟩ := lim_iff.1 h
    exact (evn_ok hH N).1.f g xs τ r m (hN N (Nat.le_refl _))
  · obtain ⟨N, hN⟩ := lim_iff.1 h
    exact (evn_ok hH N).1.d x τ md r m (hN N (Nat.le_refl _))
end
end Go.VL
