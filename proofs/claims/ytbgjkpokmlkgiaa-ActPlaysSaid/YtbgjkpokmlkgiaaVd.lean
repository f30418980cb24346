/- V-logic, part X: the game is won in one order. -/
import Derived.Test.YtbgjkpokmlkgiaaVc
namespace Go.VL
open Go

def reVal (P : Program) (m : Nat) (o : Oper) (s : VS) : Prop :=
  ob (vop P m s.σ (veval s.env) o.op) fun r => r.2 = s.σ ∧ ∀ d, o.dst = some d → r.1 = s.env d
def reNone (o : Oper) (s : VS) : Prop := ∀ d, o.dst = some d → s.env d = .tup []
def ReK (P : Program) (m : Nat) (o : Oper) (s : VS) (want : Bool) (b : Option Bool) : Prop := if b = some want then reVal P m o s else reNone o s
def reAt (P : Program) (m : Nat) (ops : Array Oper) (s : VS) (p : Nat) : Prop :=
  match ops[p]? with
  | none => True
  | some o => match o.guard with
    | none => reVal P m o s
    | some (j, want) => ob (guardV ops s.env j) (ReK P m o s want)

def wipe (ops : Array Oper) (env : Env) : Env := fun t => if ops.toList.any (fun o => o.dst == some t) = true then .any else env t
def WipeK (ops : Array Oper) (K : VX → VS → Prop) : VX → VS → Prop
  | .panic x, s => K (.panic x) ⟨wipe ops s.env, s.df, s.σ⟩
  | x, s => K x s
def vguard (ops : Array Oper) (o : Oper) (yes no : VS → Prop) (s : VS) : Prop :=
  match o.guard with
  | none => yes s
  | some (j, want) => ob (guardV ops s.env j) (GuardK yes no want s ⟨putV s.env o.dst (.tup []), s.df, s.σ⟩)
def PendK (P : Program) (m : Nat) (ops : Array Oper) (pend : List Nat) (next : VS → Prop) (s : VS) : Prop := (∀ p ∈ pend, reAt P m ops s p) ∧ next s
def ReadK (dst : Option Tmp) (s : VS) (next : VS → Prop) (r : PV × St) : Prop := r.2 = s.σ ∧ next ⟨putV s.env dst r.1, s.df, s.σ⟩
def vdo (P : Program) (m : Nat) (ops : Array Oper) (K : VX → VS → Prop) (eff : Bool) (o : Oper) (pend : List Nat) (next : VS → Prop) (s : VS) : Prop :=
  if eff = true then vstep P m o (WipeK ops K) (PendK P m ops pend next) s
  else ob (vop P m s.σ (veval s.env) o.op) (ReadK o.dst s next)

/-- A drawn region, in the order of a list. -/
def vdr (P : Program) (m : Nat) (ops : Array Oper) (K : VX → VS → Prop) (E : List Nat) : List (Nat × List Nat) → VS → Prop
  | [], s => K .normal s
  | (i, pend) :: rest, s => match ops[i]? with
    | none => False
    | some o => vguard ops o (vdo P m ops K (E.contains i) o pend (vdr P m ops K E rest)) (vdr P m ops K E rest) s

def vplay (P : Program) (m : Nat) (ops : Array Oper) (K : VX → VS → Prop) (o : Oper) (next : VS → Prop) (s : VS) : Prop := vguard ops o (vstep P m o K next) next s
def vany (P : Program) (m : Nat) (ops : Array Oper) (K : VX → VS → Prop) : Nat → Array Bool → VS → Prop
  | 0, listed, s => Region.ready .any ops listed = [] ∧ K .normal s
  | f + 1, listed, s => (Region.ready .any ops listed = [] → K .normal s) ∧
    ∀ i ∈ Region.ready .any ops listed, ∀ o, ops[i]? = some o → vplay P m ops K o (vany P m ops K f (listed.setIfInBounds i true)) s

def inS (listed : Array Bool) (j : Nat) : Prop := listed.getD j false = true

structure Game (P : Program) (m : Nat) (ops : Array Oper) (E : List Nat) (A : List Nat) (listed : Array Bool) (g s : VS) : Prop where
  sub : ∀ j, inS listed j → j ∈ A
  size : listed.size = ops.size
  down : Down ops (inS listed)
  eff : ∀ j ∈ A, j ∈ E → inS listed j
  σ : g.σ = s.σ
  df : g.df = s.df
  env : ∀ t, (∀ j ∈ A, ¬ inS listed j → dstAt ops j ≠ some t) → g.env t = s.env t
  pend : ∀ j ∈ A, ¬ inS listed j → reAt P m ops s j

section
variable {P : Program} {m : Nat} {ops : Array Oper} {E : List Nat} {L : List (Nat × List Nat)} {A : List Nat} {listed : Array Bool} {g s : VS}

theorem inS_set {i j : Nat} (hi : i < listed.size) : inS (listed.setIfInBounds i true) j ↔ j = i ∨ inS listed j := by
  unfold inS
  by_cases h : j = i
  · subst h; simp [hi]
  · rw [getD_set_ne false (fun e => h e.symm)]; simp [h]

theorem reAt_congr {s s' : VS} {j : Nat} (hσ : s'.σ = s.σ) (hl : ∀ t ∈ looksOf ops j, s'.env t = s.env t) (hd : ∀ d, dstAt ops j = some d → s'.env d = s.env d) (h : reAt P m ops s j) : reAt P m ops s' j := by
  unfold reAt at h ⊢
  cases ho : ops[j]? with
  | none => trivial
  | some o =>
    rw [ho] at h
    simp only at h ⊢
    have hl' : ∀ t ∈ looks ops o, s'.env t = s.env t := by simpa [looksOf, ho] using hl
    have hd' : ∀ d, o.dst = some d → s'.env d = s.env d := by simpa [dstAt, ho] using hd
    have hv : reVal P m o s → reVal P m o s' := by
      intro h
      unfold reVal at h ⊢
      rw [hσ, vop_congr s.σ o.op (veval_congr hl')]
      exact ob_mono (fun r hr => ⟨hr.1, fun d hd2 => by rw [hd' d hd2]; exact hr.2 d hd2⟩) h
    cases hg : o.guard with
    | none => rw [hg] at h; exact hv h
    | some p =>
      obtain ⟨k, want⟩ := p
      rw [hg] at h
      simp only at h ⊢
      rw [guardV_congr hl' hg]
      refine ob_mono (fun b hb => ?_) h
      unfold ReK at hb ⊢
      split
      · rename_i e; rw [if_pos e] at hb; exact hv hb
      · rename_i e; rw [if_neg e] at hb; exact fun d hd2 => by rw [hd' d hd2]; exact hb d hd2

theorem ready_iff {i : Nat} (h : i ∈ Region.ready .any ops listed) : i < listed.size ∧ ¬ inS listed i ∧ (∀ p ∈ preds ops i, inS listed p) ∧ ∃ o, ops[i]? = some o := by
  obtain ⟨h1, o, ho, h2⟩ := mem_ready.1 h
  refine ⟨?_, ?_, ?_, o, ho⟩
  · rcases Nat.lt_or_ge i listed.size with h' | h'
    · exact h'
    · simp [Array.getElem?_eq_none h'] at h1
  · intro hh
    unfold inS at hh
    rcases Nat.lt_or_ge i listed.size with h' | h'
    · simp [h'] at h1 hh; rw [h1] at hh; cases hh
    · simp [Array.getElem?_eq_none h'] at h1
  · intro p hp
    simp only [preds, ho, predsOf, List.mem_map, List.mem_filter] at hp
    obtain ⟨e, ⟨he, hb⟩, rfl⟩ := hp
    exact h2 e (by simpa using he) hb

theorem of_ready {i : Nat} {o : Oper} (ho : ops[i]? = some o) (hs : listed.size = ops.size) (hn : ¬ inS listed i) (hp : ∀ p ∈ preds ops i, inS listed p) : i ∈ Region.ready .any ops listed := by
  refine mem_ready.2 ⟨?_, o, ho, fun e he hb => ?_⟩
  · have hlt : i < listed.size := by rw [hs]; exact (Array.getElem?_eq_some_iff.1 ho).1
    unfold inS at hn
    simp [hlt] at hn ⊢
    exact hn
  · refine hp e.on ?_
    simp only [preds, ho, predsOf, List.mem_map, List.mem_filter]
    exact ⟨e, ⟨by simpa using he, hb⟩, rfl⟩

/-- What a ready operation sees is what it sees in the list's order. -/
theorem Game.sees (hO : Ord ops E L) (hA : ∀ j ∈ A, j ∈ L.map (·.1)) (hG : Game P m ops E A listed g s) {i : Nat} (hi : i ∈ L.map (·.1)) (hp : ∀ p ∈ preds ops i, inS listed p) : ∀ t ∈ looksOf ops i, g.env t = s.env t :=
  fun t ht => hG.env t fun j hj hn hd => by
    rcases hO.reads hi (hA j hj) ht hd with h | ⟨h, -⟩
    · exact hn (h _ hG.down hp)
    · exact hn (hG.eff j hj h)

theorem ids_split {L1 L2 : List (Nat × List Nat)} {i : Nat} {pd : List Nat} (he : L = L1 ++ (i, pd) :: L2) : L.map (·.1) = L1.map (·.1) ++ i :: L2.map (·.1) := by simp [he]

theorem notin {hO : Ord ops E L} {L1 L2 : List (Nat × List Nat)} {i : Nat} {pd : List Nat} (he : L = L1 ++ (i, pd) :: L2) : i ∉ L1.map (·.1) ∧ i ∉ L2.map (·.1) := by
  have := hO.nodup
  rw [ids_split he] at this
  rw [List.nodup_append] at this
  refine ⟨fun h => this.2.2 i h i (by simp) rfl, fun h => ?_⟩
  exact (List.nodup_cons.1 this.2.1).1 h

/-- The places that an earlier operation looks at are not written by a later one. -/
theorem Ord.late (hO : Ord ops E L) {L1 L2 : List (Nat × List Nat)} {i : Nat} {pd : List Nat} (he : L = L1 ++ (i, pd) :: L2) {j t : Nat} (hj : j ∈ i :: L1.map (·.1)) (ht : t ∈ looksOf ops j) (hE : i ∉ E ∨ (j ∈ L1.map (·.1) ∧ ∃ S, Down ops S ∧ (∀ p ∈ preds ops i, S p) ∧ ¬ S j)) : dstAt ops i ≠ some t := by
  intro hd
  have hids := ids_split he
  have hmem : ∀ x, x ∈ L1.map (·.1) → x ∈ L.map (·.1) := fun x hx => by rw [hids]; simp at hx ⊢; exact .inl hx
  have hi : i ∈ L.map (·.1) := by rw [hids]; simp
  have hdown : Down ops fun x => x ∈ L1.map (·.1) := by
    intro x hx p hp
    obtain ⟨a, b, hab⟩ := List.append_of_mem hx
    have := hO.pre (A := a) (i := x) (Bs := b ++ i :: L2.map (·.1)) (by rw [hids, hab]; simp) p hp
    simp only [hab, List.mem_append]
    exact .inl this
  have hj' : j ∈ L.map (·.1) := by
    simp only [List.mem_cons] at hj
    rcases hj with rfl | hj
    · exact hi
    · exact hmem j hj
  have hp : ∀ p ∈ preds ops j, p ∈ L1.map (·.1) := by
    simp only [List.mem_cons] at hj
    rcases hj with rfl | hj
    · exact hO.pre hids
    · exact hdown j hj
  rcases hO.reads hj' hi ht hd with h | ⟨h, h2⟩
  · exact (notin (hO := hO) he).1 (h _ hdown hp)
  · rcases hE with hE | ⟨hj1, S, hS, hpS, hnj⟩
    · exact hE h
    · rcases h2 with rfl | h2
      · exact (notin (hO := hO) he).1 hj1
      · exact hnj (h2 S hS hpS)

theorem Game.advance (hO : Ord ops E L) {L1 L2 : List (Nat × List Nat)} {i : Nat} {pd : List Nat} {K : VX → VS → Prop} (he : L = L1 ++ (i, pd) :: L2) (hG : Game P m ops E (L1.map (·.1)) listed g s)
    (hi : i ∉ E) (h : vdr P m ops K E ((i, pd) :: L2) s) : ∃ s', Game P m ops E ((L1 ++ [(i, pd)]).map (·.1)) listed g s' ∧ vdr P m ops K E L2 s' := by
  obtain ⟨hn1, hn2⟩ := notin (hO := hO) he
  have hids := ids_split he
  have hnS : ¬ inS listed i := fun hh => hn1 (hG.sub i hh)
  have hmi : i ∈ L.map (·.1) := by rw [hids]; simp
  have hm1 : ∀ x, x ∈ L1.map (·.1) → x ∈ L.map (·.1) := fun x hx => by rw [hids]; simp at hx ⊢; exact .inl hx
  simp only [vdr] at h
  cases ho : ops[i]? with
  | none => rw [ho] at h; exact h.elim
  | some o =>
    rw [ho] at h
    have hi' : E.contains i = false := by simpa using hi
    have hlk : ∀ t ∈ looks ops o, ∀ x, (putV s.env o.dst x) t = s.env t := by
      intro t ht x
      have := hO.late he (j := i) (by simp) (t := t) (by simpa [looksOf, ho] using ht) (.inl hi)
      simp only [dstAt, ho, Option.bind_some] at this
      cases hd : o.dst with
      | none => rfl
      | some d => rw [hd] at this; simp only [putV, upd]; rw [if_neg (fun e => this (by rw [e]))]
    -- the new state, whatever was put
    have key : ∀ x, reAt P m ops ⟨putV s.env o.dst x, s.df, s.σ⟩ i → Game P m ops E ((L1 ++ [(i, pd)]).map (·.1)) listed g ⟨putV s.env o.dst x, s.df, s.σ⟩ := by
      intro x hre
      have hmem : ∀ j, j ∈ (L1 ++ [(i, pd)]).map (·.1) ↔ j ∈ L1.map (·.1) ∨ j = i := by intro j; simp
      refine ⟨fun j hj => (hmem j).2 (.inl (hG.sub j hj)), hG.size, hG.down, fun j hj hje => ?_, hG.σ, hG.df, fun t ht => ?_, fun j hj hjn => ?_⟩
      · rcases (hmem j).1 hj with h1 | rfl
        · exact hG.eff j h1 hje
        · exact absurd hje hi
      · rw [hG.env t fun j hj hjn => ht j ((hmem j).2 (.inl hj)) hjn]
        have := ht i ((hmem i).2 (.inr rfl)) hnS
        simp only [dstAt, ho, Option.bind_some] at this
        cases hd : o.dst with
        | none => rfl
        | some d => rw [hd] at this; simp only [putV, upd]; rw [if_neg (fun e => this (by rw [e]))]
      · rcases (hmem j).1 hj with h1 | rfl
        · refine reAt_congr (s := s) rfl (fun t ht => ?_) (fun d hd => ?_) (hG.pend j h1 hjn)
          · have := hO.late he (j := j) (by simp at h1 ⊢; exact .inr h1) ht (.inl hi)
            simp only [dstAt, ho, Option.bind_some] at this
            cases hd : o.dst with
            | none => rfl
            | some d => rw [hd] at this; simp only [putV, upd]; rw [if_neg (fun e => this (by rw [e]))]
          · cases hd2 : o.dst with
            | none => rfl
            | some d2 =>
              simp only [putV, upd]
              rw [if_neg]
              intro e
              subst e
              have := hO.dst (hm1 j h1) hmi hd (by simp [dstAt, ho, hd2])
              exact hn1 (by rw [← this]; exact h1)
        · exact hre
    have hre : ∀ {r : PV × St}, vop P m s.σ (veval s.env) o.op = some r → r.2 = s.σ → reVal P m o ⟨putV s.env o.dst r.1, s.df, s.σ⟩ := by
      intro r hv hr
      unfold reVal
      simp only
      rw [vop_congr s.σ o.op (veval_congr (e := putV s.env o.dst r.1) (e' := s.env) fun t ht => hlk t ht _), hv]
      exact ⟨hr, fun d hd => by simp [putV, upd, hd]⟩
    simp only [vguard] at h
    cases hg : o.guard with
    | none =>
      rw [hg] at h
      simp only [vdo, hi', Bool.false_eq_true, if_false] at h
      cases hv : vop P m s.σ (veval s.env) o.op with
      | none => rw [hv] at h; exact h.elim
      | some r =>
        rw [hv] at h
        obtain ⟨h1, h2⟩ := h
        exact ⟨_, key r.1 (by simp only [reAt, ho, hg]; exact hre hv h1), h2⟩
    | some p =>
      obtain ⟨k, want⟩ := p
      rw [hg] at h
      simp only at h
      cases hgv : guardV ops s.env k with
      | none => rw [hgv] at h; exact h.elim
      | some b =>
        rw [hgv] at h
        simp only [ob, GuardK] at h
        have hgk : ∀ x, guardV ops (putV s.env o.dst x) k = some b := fun x => by rw [guardV_congr (fun t ht => hlk t ht x) hg, hgv]
        by_cases e : b = some want
        · rw [if_pos e] at h
          simp only [vdo, hi', Bool.false_eq_true, if_false] at h
          cases hv : vop P m s.σ (veval s.env) o.op with
          | none => rw [hv] at h; exact h.elim
          | some r =>
            rw [hv] at h
            obtain ⟨h1, h2⟩ := h
            exact ⟨_, key r.1 (by simp only [reAt, ho, hg, hgk, ob, ReK, if_pos e]; exact hre hv h1), h2⟩
        · rw [if_neg e] at h
          exact ⟨_, key (.tup []) (by simp only [reAt, ho, hg, hgk, ob, ReK, if_neg e]; exact fun d hd => by simp [putV, upd, hd]), h⟩

/-- An operation of the list that the game had left out is played now. -/
theorem Game.late (hO : Ord ops E L) (hA : ∀ j ∈ A, j ∈ L.map (·.1)) (hG : Game P m ops E A listed g s) {i : Nat} (hi : i ∈ A) (hr : i ∈ Region.ready .any ops listed) {o : Oper} (ho : ops[i]? = some o)
    {K : VX → VS → Prop} {next : VS → Prop} (hnext : ∀ g', Game P m ops E A (listed.setIfInBounds i true) g' s → next g') : vplay P m ops K o next g := by
  obtain ⟨hlt, hnS, hp, -⟩ := ready_iff hr
  have he := hG.pend i hi hnS
  have hs := hG.sees hO hA (hA i hi) hp
  have hs' : ∀ t ∈ looks ops o, g.env t = s.env t := by simpa [looksOf, ho] using hs
  have key : ∀ x, (∀ d, o.dst = some d → x = s.env d) → next ⟨putV g.env o.dst x, g.df, g.σ⟩ := by
    intro x hx
    refine hnext _ ⟨fun j hj => ?_, by simpa using hG.size, fun j hj p hp2 => ?_, fun j hj hje => (inS_set hlt).2 (.inr (hG.eff j hj hje)), hG.σ, hG.df, fun t ht => ?_, fun j hj hjn => hG.pend j hj fun hh => hjn ((inS_set hlt).2 (.inr hh))⟩
    · rcases (inS_set hlt).1 hj with rfl | h1
      · exact hi
      · exact hG.sub j h1
    · rcases (inS_set hlt).1 hj with rfl | h1
      · exact (inS_set hlt).2 (.inr (hp p hp2))
      · exact (inS_set hlt).2 (.inr (hG.down j h1 p hp2))
    · have old : dstAt ops i ≠ some t → g.env t = s.env t := fun hd => hG.env t fun j hj hjn => by
        by_cases hji : j = i
        · subst hji; exact hd
        · exact ht j hj fun hh => ((inS_set hlt).1 hh).elim hji hjn
      cases hd : o.dst with
      | none => simp only [putV]; exact old (by simp [dstAt, ho, hd])
      | some d =>
        simp only [putV, upd]
        by_cases e : t = d
        · subst e; rw [if_pos rfl]; exact hx t hd
        · rw [if_neg e]; exact old (by simp [dstAt, ho, hd]; exact fun e2 => e e2.symm)
  have hval : reVal P m o s → vstep P m o K next g := by
    intro h
    unfold reVal at h
    cases hv : vop P m s.σ (veval s.env) o.op with
    | none => rw [hv] at h; exact h.elim
    | some r =>
      rw [hv] at h
      refine vstep_read (r := r) (by rw [hG.σ, vop_congr s.σ o.op (veval_congr hs'), hv]) ?_
      have := key r.1 h.2
      simp only [StepK]
      rw [h.1, ← hG.σ]; exact this
  unfold vplay vguard
  simp only [reAt, ho] at he
  cases hg : o.guard with
  | none => rw [hg] at he; exact hval he
  | some q =>
    obtain ⟨k, want⟩ := q
    rw [hg] at he
    simp only at he ⊢
    rw [guardV_congr hs' hg]
    refine ob_mono (fun b hb => ?_) he
    unfold ReK at hb
    unfold GuardK
    by_cases e : b = some want
    · rw [if_pos e] at hb ⊢; exact hval hb
    · rw [if_neg e] at hb ⊢; exact key (.tup []) fun d hd => (hb d hd).symm

/-- An operation with an effect is played when its turn has come. -/
theorem Game.effect (hO : Ord ops E L) {L1 L2 : List (Nat × List Nat)} {i : Nat} {pd : List Nat} {K : VX → VS → Prop} (he : L = L1 ++ (i, pd) :: L2) (hG : Game P m ops E (L1.map (·.1)) listed g s)
    (hi : i ∈ E) (hr : i ∈ Region.ready .any ops listed) {o : Oper} (ho : ops[i]? = some o) (h : vdr P m ops K E ((i, pd) :: L2) s) {next : VS → Prop}
    (hnext : ∀ g' s', Game P m ops E ((L1 ++ [(i, pd)]).map (·.1)) (listed.setIfInBounds i true) g' s' → vdr P m ops K E L2 s' → next g') : vplay P m ops (WipeK ops K) o next g := by
  obtain ⟨hlt, hnS, hp, -⟩ := ready_iff hr
  obtain ⟨hn1, hn2⟩ := notin (hO := hO) he
  have hids := ids_split he
  have hmi : i ∈ L.map (·.1) := by rw [hids]; simp
  have hm1 : ∀ x, x ∈ L1.map (·.1) → x ∈ L.map (·.1) := fun x hx => by rw [hids]; simp at hx ⊢; exact .inl hx
  have hs := hG.sees hO hm1 hmi hp
  have hs' : ∀ t ∈ looks ops o, s.env t = g.env t := fun t ht => (hs t (by simpa [looksOf, ho] using ht)).symm
  have hmem : ∀ j, j ∈ (L1 ++ [(i, pd)]).map (·.1) ↔ j ∈ L1.map (·.1) ∨ j = i := by intro j; simp
  have hie : E.contains i = true := by simpa using hi
  have key : ∀ x df σ, (∀ j ∈ L1.map (·.1), ¬ inS listed j → reAt P m ops ⟨putV s.env o.dst x, df, σ⟩ j) → vdr P m ops K E L2 ⟨putV s.env o.dst x, df, σ⟩ → next ⟨putV g.env o.dst x, df, σ⟩ := by
    intro x df σ hre hv
    refine hnext _ ⟨putV s.env o.dst x, df, σ⟩ ⟨fun j hj => ?_, by simpa using hG.size, fun j hj p hp2 => ?_, fun j hj hje => ?_, rfl, rfl, fun t ht => ?_, fun j hj hjn => ?_⟩ hv
    · rcases (inS_set hlt).1 hj with rfl | h1
      · exact (hmem j).2 (.inr rfl)
      · exact (hmem j).2 (.inl (hG.sub j h1))
    · rcases (inS_set hlt).1 hj with rfl | h1
      · exact (inS_set hlt).2 (.inr (hp p hp2))
      · exact (inS_set hlt).2 (.inr (hG.down j h1 p hp2))
    · rcases (hmem j).1 hj with h1 | rfl
      · exact (inS_set hlt).2 (.inr (hG.eff j h1 hje))
      · exact (inS_set hlt).2 (.inl rfl)
    · have old : g.env t = s.env t := hG.env t fun j hj hjn => ht j ((hmem j).2 (.inl hj)) fun hh => ((inS_set hlt).1 hh).elim (fun e => hn1 (e ▸ hj)) hjn
      cases hd : o.dst with
      | none => exact old
      | some d =>
        simp only [putV, upd]
        by_cases e : t = d
        · rw [if_pos e, if_pos e]
        · rw [if_neg e, if_neg e]; exact old
    · rcases (hmem j).1 hj with h1 | rfl
      · exact hre j h1 fun hh => hjn ((inS_set hlt).2 (.inr hh))
      · exact absurd ((inS_set hlt).2 (.inl rfl)) hjn
  have hpend : ∀ j ∈ L1.map (·.1), ¬ inS listed j → j ∈ pd := by
    intro j hj hjn
    rcases (hO.effs he hi).1 j hj with h1 | h1 | h1
    · exact absurd (hG.eff j hj h1) hjn
    · exact h1
    · exact absurd (h1 _ hG.down hp) hjn
  have hwipe : ∀ t, wipe ops s.env t = wipe ops g.env t := by
    intro t
    unfold wipe
    split
    · rfl
    · rename_i hh
      refine (hG.env t fun j hj hjn hd => hh ?_).symm
      simp only [dstAt] at hd
      cases hoj : ops[j]? with
      | none => rw [hoj] at hd; simp at hd
      | some oj =>
        rw [hoj] at hd; simp at hd
        rw [List.any_eq_true]
        exact ⟨oj, by have := Array.mem_of_getElem? hoj; simpa using this, by simp [hd]⟩
  have hstep : ∀ q, vstep P m o (WipeK ops K) (PendK P m ops pd (vdr P m ops K E L2)) s → q = g → vstep P m o (WipeK ops K) next q := by
    rintro q h rfl
    obtain ⟨env, df, σ⟩ := s
    obtain ⟨env', df', σ'⟩ := q
    have h1 := hG.σ
    have h2 := hG.df
    simp only at h1 h2
    subst h1 h2
    refine vstep_congr (ops := ops) hs' (fun x df σ hh => key x df σ (fun j hj hjn => hh.1 j (hpend j hj hjn)) hh.2) (fun x df σ hh => ?_) h
    simp only [WipeK] at hh ⊢
    have : wipe ops env = wipe ops env' := funext hwipe
    rw [← this]; exact hh
  simp only [vdr, ho] at h
  unfold vplay
  unfold vguard at h ⊢
  cases hg : o.guard with
  | none =>
    rw [hg] at h
    simp only [vdo, hie, if_true] at h
    exact hstep g h rfl
  | some q =>
    obtain ⟨k, want⟩ := q
    rw [hg] at h
    simp only at h ⊢
    rw [guardV_congr (fun t ht => (hs' t ht).symm) hg]
    cases hgv : guardV ops s.env k with
    | none => rw [hgv] at h; exact h.elim
    | some b =>
      rw [hgv] at h
      simp only [ob, GuardK] at h ⊢
      by_cases e : b = some want
      · rw [if_pos e] at h ⊢
        simp only [vdo, hie, if_true] at h
        exact hstep g h rfl
      · rw [if_neg e] at h ⊢
        rw [hG.σ, hG.df]
        refine key (.tup []) s.df s.σ (fun j hj hjn => ?_) h
        refine reAt_congr (s := s) rfl (fun t ht => ?_) (fun d hd => ?_) (hG.pend j hj hjn)
        · have := hO.late he (j := j) (by simp at hj ⊢; exact .inr hj) ht (.inr ⟨hj, _, hG.down, hp, hjn⟩)
          simp only [dstAt, ho, Option.bind_some] at this
          cases hd : o.dst with
          | none => rfl
          | some d => rw [hd] at this; simp only [putV, upd]; rw [if_neg (fun e => this (by rw [e]))]
        · cases hd2 : o.dst with
          | none => rfl
          | some d2 =>
            simp only [putV, upd]
            rw [if_neg]
            intro e
            subst e
            have := hO.dst (hm1 j hj) hmi hd (by simp [dstAt, ho, hd2])
            exact hn1 (by rw [← this]; exact hj)

def unl (listed : Array Bool) : Nat := listed.toList.count false

theorem unl_set {i : Nat} (hi : i < listed.size) (hn : ¬ inS listed i) : unl (listed.setIfInBounds i true) + 1 = unl listed := by
  unfold inS at hn
  simp only [Array.getD, hi] at hn
  have hb : listed[i] = false := by simpa using hn
  have hl : i < listed.toList.length := by simpa using hi
  unfold unl
  rw [Array.toList_setIfInBounds, List.count_set hl]
  have h1 : listed.toList[i] = false := by simpa using hb
  have h2 : 0 < listed.toList.count false := List.count_pos_iff.2 (by rw [← h1]; exact List.getElem_mem hl)
  rw [h1]
  simp only [beq_self_eq_true, if_true]
  have h3 : (true == false) = false := rfl
  rw [h3]
  simp only [Bool.false_eq_true, if_false]
  omega

theorem unl_zero (h : unl listed = 0) : Region.ready .any ops listed = [] := by
  cases hr : Region.ready .any ops listed with
  | nil => rfl
  | cons i r =>
    obtain ⟨h1, h2, -, -⟩ := ready_iff (ops := ops) (listed := listed) (i := i) (by rw [hr]; simp)
    have := unl_set h1 h2
    omega

theorem all_in (hO : Ord ops E L) (hs : listed.size = ops.size) (hr : Region.ready .any ops listed = []) : ∀ (l A : List Nat), L.map (·.1) = A ++ l → (∀ j ∈ A, inS listed j) → ∀ j ∈ l, inS listed j
  | [], A, _, _ => by simp
  | i :: l, A, he, hA => by
    have hi : inS listed i := by
      refine Classical.byContradiction fun hn => ?_
      have hlt := hO.lt i (by rw [he]; simp)
      have := of_ready (ops := ops) (i := i) (o := ops[i]) (by simp [hlt]) hs hn fun p hp => hA p (hO.pre he p hp)
      rw [hr] at this
      simp at this
    intro j hj
    simp only [List.mem_cons] at hj
    rcases hj with rfl | hj
    · exact hi
    · exact all_in hO hs hr l (A ++ [i]) (by rw [he]; simp) (by
        intro k hk
        simp only [List.mem_append, List.mem_cons, List.not_mem_nil, or_false] at hk
        rcases hk with hk | rfl
        · exact hA k hk
        · exact hi) j hj

theorem Game.done (hO : Ord ops E L) {L1 L2 : List (Nat × List Nat)} (he : L = L1 ++ L2) (hG : Game P m ops E (L1.map (·.1)) listed g s) (hr : Region.ready .any ops listed = []) {K : VX → VS → Prop} (h : vdr P m ops K E L2 s) : K .normal g := by
  have hall := all_in hO hG.size hr (L.map (·.1)) [] rfl (by simp)
  cases L2 with
  | cons x r =>
    obtain ⟨i, pd⟩ := x
    exact absurd (hG.sub i (hall i (by rw [ids_split he]; simp))) (notin (hO := hO) he).1
  | nil =>
    have henv : g.env = s.env := funext fun t => hG.env t fun j hj hjn => absurd (hall j (by rw [he]; simpa using hj)) hjn
    have : g = s := by
      obtain ⟨a, b, c⟩ := g
      obtain ⟨a', b', c'⟩ := s
      have h1 := hG.σ; have h2 := hG.df
      simp only at henv h1 h2
      subst henv h1 h2
      rfl
    rw [this]; exact h

theorem Game.reach (hO : Ord ops E L) {K : VX → VS → Prop} {i : Nat} (hr : i ∈ Region.ready .any ops listed) : ∀ (L2 L1 : List (Nat × List Nat)) (s : VS), L = L1 ++ L2 → Game P m ops E (L1.map (·.1)) listed g s → vdr P m ops K E L2 s →
    ∃ L1' L2' s', L = L1' ++ L2' ∧ Game P m ops E (L1'.map (·.1)) listed g s' ∧ vdr P m ops K E L2' s' ∧ (i ∈ L1'.map (·.1) ∨ (i ∈ E ∧ ∃ pd r, L2' = (i, pd) :: r))
  | [], L1, s, he, hG, h => by
    obtain ⟨hlt, -, -, o, ho⟩ := ready_iff hr
    refine ⟨L1, [], s, he, hG, h, .inl ?_⟩
    have := hO.all i (by rw [← hG.size]; exact hlt)
    rw [he] at this; simpa using this
  | (k, pd) :: r, L1, s, he, hG, h => by
    by_cases hi : i ∈ L1.map (·.1)
    · exact ⟨L1, (k, pd) :: r, s, he, hG, h, .inl hi⟩
    · by_cases hk : k ∈ E
      rotate_left
      · obtain ⟨s', hG', h'⟩ := hG.advance hO he hk h
        exact Game.reach hO hr r (L1 ++ [(k, pd)]) s' (by rw [he]; simp) hG' h'
      · by_cases hik : k = i
        · subst hik; exact ⟨L1, (k, pd) :: r, s, he, hG, h, .inr ⟨hk, pd, r, rfl⟩⟩
        · exfalso
          obtain ⟨hlt, -, hp, o, ho⟩ := ready_iff hr
          have hin := hO.all i (by rw [← hG.size]; exact hlt)
          rw [ids_split he] at hin
          simp only [List.mem_append, List.mem_cons] at hin
          rcases hin with h1 | h1 | h1
          · exact hi h1
          · exact hik h1.symm
          · have := (hO.effs he hk).2 i h1 _ hG.down hp
            exact (notin (hO := hO) he).1 (hG.sub k this)

theorem game_won (hO : Ord ops E L) {K : VX → VS → Prop} : ∀ (fuel : Nat) (L1 L2 : List (Nat × List Nat)) (listed : Array Bool) (g s : VS), L = L1 ++ L2 → Game P m ops E (L1.map (·.1)) listed g s → vdr P m ops K E L2 s →
    unl listed ≤ fuel → vany P m ops (WipeK ops K) fuel listed g
  | 0, L1, L2, listed, g, s, he, hG, h, hu => by
    have hr := unl_zero (ops := ops) (by omega : unl listed = 0)
    exact ⟨hr, show K .normal g from hG.done hO he hr h⟩
  | fuel + 1, L1, L2, listed, g, s, he, hG, h, hu => by
    refine ⟨fun hr => show K .normal g from hG.done hO he hr h, fun i hi o ho => ?_⟩
    obtain ⟨hlt, hnS, hp, -⟩ := ready_iff hi
    have hfu := unl_set hlt hnS
    obtain ⟨L1', L2', s', he', hG', h', hc⟩ := Game.reach hO hi L2 L1 s he hG h
    rcases hc with hc | ⟨hc, pd, r, rfl⟩
    · exact hG'.late hO (fun j hj => by rw [he']; simp at hj ⊢; exact .inl hj) hc hi ho fun g' hg' => game_won hO fuel L1' L2' _ g' s' he' hg' h' (by omega)
    · exact hG'.effect hO he' hc hi ho h' fun g' s'' hg' hv => game_won hO fuel (L1' ++ [(i, pd)]) r _ g' s'' (by rw [he']; simp) hg' hv (by omega)

theorem vdr_vany {K : VX → VS → Prop} (hL : ordOk ops E L = true) (h : vdr P m ops K E L s) : vany P m ops (WipeK ops K) ops.size (Array.replicate ops.size false) s := by
  have hO := ordOk_ord hL
  have hno : ∀ j, ¬ inS (Array.replicate ops.size false) j := by
    intro j hj
    unfold inS at hj
    rw [Array.getD_eq_getD_getElem?, Array.getElem?_replicate] at hj
    split at hj <;> simp at hj
  refine game_won hO _ [] L _ s s rfl ⟨fun j hj => absurd hj (hno j), by simp, fun j hj => absurd hj (hno j), by simp, rfl, rfl, fun _ _ => rfl, by simp⟩ h ?_
  unfold unl
  simp
end
end Go.VL
namespace Go.VL
open Go

/-- A drawn region is told by a list: in which order, and which reads may still be left out at an effect. -/
abbrev Tbl := List (Nat × List Nat × List (Nat × List Nat))
def ordT (T : Tbl) : Chk := fun id ops => match T.lookup id with
  | some (E, L) => ordOk ops E L
  | none => false
def drawH (P : Program) (m : Nat) (T : Tbl) : Dr := fun id ops K s => match T.lookup id with
  | some (E, L) => vdr P m ops K E L s
  | none => False

section
variable {P : Program} {B : Base} {β : Bt} {w : World} {N : Nat} {a : Act} {ops : Array Oper}

theorem vplay_sound (hd : ∀ o ∈ ops.toList, ∀ d, o.dst = some d → d < N) {K : VX → VS → Prop} {Q : Exit → Act → World → Prop} (hQ : Post B N K Q) {i : Nat} {o : Oper} (ho : ops[i]? = some o)
    {next : VS → Prop} {knext : Act → World → Prop} {s : VS} (h : vplay P B.σ.length ops K o next s) (hw : WR B β s.σ w) (ha : ARel B β s.σ w N s.env s.df a)
    (hn : ∀ s a w β, next s → WR B β s.σ w → ARel B β s.σ w N s.env s.df a → knext a w) : wpOp P ops Q i knext a w := by
  have hdo := hd o (List.mem_of_getElem? (i := i) (by simpa using ho))
  have yes : vstep P B.σ.length o K next s → o.wp P a w knext Q := fun h => vstep_sound hw ha hdo h hQ hn
  unfold wpOp
  rw [ho]
  simp only
  unfold vplay vguard at h
  cases hg : o.guard with
  | none =>
    rw [hg] at h
    have : Region.wanted o (yielded ops a.tmps) = true := by simp [Region.wanted, hg]
    rw [if_pos this]
    exact .inl (yes h)
  | some g =>
    obtain ⟨j, want⟩ := g
    rw [hg] at h
    simp only at h
    cases hgv : guardV ops s.env j with
    | none => rw [hgv] at h; exact h.elim
    | some b =>
      rw [hgv] at h
      have hy := yielded_of ha hgv
      have hwn : Region.wanted o (yielded ops a.tmps) = (b == some want) := by
        simp [Region.wanted, hg, hy]
      simp only [ob, GuardK] at h
      by_cases e : b = some want
      · rw [if_pos e] at h
        rw [if_pos (by rw [hwn]; simpa using e)]
        exact .inl (yes h)
      · rw [if_neg e] at h
        rw [if_neg (by rw [hwn]; simpa using e)]
        exact hn _ _ w β h hw (ha.put undef_rel hdo)

theorem vany_sound (hd : ∀ o ∈ ops.toList, ∀ d, o.dst = some d → d < N) {K : VX → VS → Prop} {Q : Exit → Act → World → Prop} (hQ : Post B N K Q) :
    ∀ (fuel : Nat) (listed : Array Bool) (s : VS) (a : Act) (w : World) (β : Bt), vany P B.σ.length ops K fuel listed s → WR B β s.σ w → ARel B β s.σ w N s.env s.df a → wpAny P .any ops Q fuel listed a w
  | 0, listed, s, a, w, β, h, hw, ha => ⟨h.1, hQ _ _ _ a w β h.2 hw ha trivial⟩
  | fuel + 1, listed, s, a, w, β, h, hw, ha => by
    refine ⟨fun hr => hQ _ _ _ a w β (h.1 hr) hw ha trivial, fun i hi => ?_⟩
    obtain ⟨-, -, -, o, ho⟩ := ready_iff hi
    exact vplay_sound hd hQ ho (h.2 i hi o ho) hw ha fun s a w β hn hw ha => vany_sound hd hQ fuel _ s a w β hn hw ha

theorem wipe_post {K : VX → VS → Prop} {Q : Exit → Act → World → Prop} (hQ : Post B N K Q) : Post B N (WipeK ops K) Q := by
  intro x s e a w β hk hw ha hx
  cases x with
  | panic v =>
    refine hQ _ _ e a w β hk hw ⟨ha.size, fun t => ?_, ha.dfl, ha.df⟩ hx
    show VRel β s.σ w (Zc B β s.σ w) (wipe ops s.env t) _
    unfold wipe
    split
    · exact .any _
    · exact ha.env t
  | normal => exact hQ .normal s e a w β hk hw ha hx
  | exit i => exact hQ (.exit i) s e a w β hk hw ha hx
  | ret => exact hQ .ret s e a w β hk hw ha hx

theorem drawH_ok {T : Tbl} (hm : P.follows .mixedOrders = true) : DrawOK P B N (ordT T) (drawH P B.σ.length T) := by
  intro id ops K Q s a w β hc hd h hQ hw ha
  unfold drawH at h
  unfold ordT at hc
  cases hl : T.lookup id with
  | none => rw [hl] at h; exact h.elim
  | some r =>
  obtain ⟨E, L⟩ := r
  rw [hl] at h hc
  have hL : ordOk ops E L = true := hc
  have hm' := Mv.drew hw
  exact wp_region_any hm (vany_sound hd (wipe_post hQ) _ _ s a w.drew β (vdr_vany hL h) hm'.wr (ha.mono hm'))

theorem PCalls.intro' (T : Tbl) (hm : P.follows .mixedOrders = true) {σ : St} {g : FuncId} {fn : Func} {c : Code} {res : List ResultVar} (hfn : FnOK P g fn c N (ordT T) res) {args : List PV} (hl : args.length ≤ N) {R : VO → St → Prop}
    (h : vwp P σ.length (drawH P σ.length T) c (BodyK P σ.length res (FinR σ.length R) (FinP σ.length R)) ⟨env0 args, [], σ⟩) {m : Nat} : PCalls P m g args σ R :=
  PCalls.intro (fun B hB => by rw [← hB]; exact drawH_ok hm) hfn hl h

theorem PFun.intro' (T : Tbl) (hm : P.follows .mixedOrders = true) {g : FuncId} {fn : Func} {c : Code} {res : List ResultVar} (hfn : FnOK P g fn c N (ordT T) res) {ds : List VL.D} (hl : ds.length ≤ N) {o : Out}
    (h : vwp P 0 (drawH P 0 T) c (BodyK P 0 res (FinF o) (FinFP o)) ⟨env0 (ds.map .d), [], []⟩) : PFun P g ds o :=
  PFun.intro (fun B hB => by rw [← hB]; exact drawH_ok hm) hfn hl h
end
end Go.VL
namespace Go.VL
open Go

/-- A deferred function is through, and nothing panics any more. -/
def CatchK (m : Nat) (R : Option VL.D → St → Prop) : VX → VS → Prop
  | .normal, s => s.df = [] ∧ ∃ n, m ≤ n ∧ (s.σ.take n).all (okOb n) = true ∧ R none (s.σ.take n)
  | .ret, s => s.df = [] ∧ ∃ n, m ≤ n ∧ (s.σ.take n).all (okOb n) = true ∧ R none (s.σ.take n)
  | _, _ => False

def recV : Option VL.D → PV
  | none => .d .nili
  | some x => .d x

structure CatchOK (P : Program) (g : FuncId) (N : Nat) (T : Tbl) (d : Tmp) (rest : Code) : Prop where
  ex : ∃ fn id ty pos after ctys, P.funcs[g]? = some fn ∧ fn.body = some (.seq (.region id #[⟨some d, .call ⟨.builtin .recover, #[], ctys⟩, ty, pos, after, none⟩] false) rest) ∧
    (fn.name == "runtime.NumGoroutine") = false ∧ fn.ntmps = N ∧ fn.results = #[]
  dst : dstOk N (ordT T) rest = true
  lt : d < N

section
variable {P : Program} {B : Base} {β β' : Bt} {σ σ' : St} {w w' : World} {N : Nat}

theorem PDefs.catch (T : Tbl) {m : Nat} {x : DV} {d : Tmp} {rest : Code} {md : Option VL.D} {R : Option VL.D → St → Prop} (hm : P.follows .mixedOrders = true) (hok : CatchOK P x.f N T d rest) (hl : (x.args ++ x.captured).length ≤ N)
    (h : vwp P σ.length (drawH P σ.length T) rest (CatchK σ.length R) ⟨putV (env0 (x.args ++ x.captured)) (some d) (recV md), [], σ⟩) : PDefs P m x σ md R := by
  obtain ⟨⟨fn, id, ty, pos, after, ctys, hfn, hbody, hname, hN, hres⟩, hdst, hlt⟩ := hok
  intro B β w va ca u hmB hw hva hca hmd
  have hname' : ¬ fn.name = "runtime.NumGoroutine" := by simpa using hname
  refine ⟨by simp [invoke, callFunc, hfn, hname', hbody], ?_⟩
  refine callsD_of_wpS hfn hbody ?_
  intro c₀ cs hc
  rw [hN]
  have hb := base_self hw
  have hargs : VRelL β σ w (Zc B β σ w) (x.args ++ x.captured) (va ++ ca) := hva.append hca
  have hv' : VRelL β σ w (Zc ⟨β, σ, w, Zc B β σ w⟩ β σ w) (x.args ++ x.captured) (va ++ ca) :=
    ⟨hargs.1, fun j x v hx hu => (hargs.2 j x v hx hu).mono (Ext.refl _ _) (fun _ _ _ _ h => h) (fun b hb => ⟨.inl hb, hb.2.1, hb.2.2⟩)⟩
  have hstart := start_rel (N := N) hb hv' hl
  have hzz : ∀ b, Zc B β σ w b → Zc ⟨β, σ, w, Zc B β σ w⟩ β σ w b := fun b hb => ⟨.inl hb, hb.2.1, hb.2.2⟩
  -- what was recovered
  have hrec : ∃ v u', VRel β σ w (Zc ⟨β, σ, w, Zc B β σ w⟩ β σ w) (recV md) v ∧ settle u' = .returning ∧
      (match recoverD (c₀ :: cs) with
        | some (y, cs') => y = v ∧ cs' = { c₀ with mode := u' } :: cs
        | none => v = .nilIface ∧ { c₀ with mode := u' } = c₀) := by
    cases md with
    | none =>
      cases u with
      | returning => exact ⟨.nilIface, .returning, .d _ _ .nili, rfl, by simp only [recoverD, hc]; exact ⟨trivial, by rw [← hc]⟩⟩
      | _ => exact hmd.elim
    | some y =>
      cases u with
      | panicking ch =>
        obtain ⟨v, rfl, hd⟩ := hmd
        exact ⟨v, .panicking [{ v := v, recovered := true }], .d _ _ (hd.mono (fun _ _ _ _ h => h) hzz), rfl, by simp [recoverD, hc]⟩
      | _ => exact hmd.elim
  obtain ⟨v, u', hv, hset, hrd⟩ := hrec
  refine wpS_seq (wpS_region ?_)
  have fin : ∀ cs', cs' = { c₀ with mode := u' } :: cs → Exit.thenS (rest.wpS P (bodyPostS P fn c₀ cs fun e u' w' => match e with
      | .returned _ => ∃ md' σ' β', R md' σ' ∧ Mv B β σ w β' σ' w' ∧ ModeRel B β' σ' w' md' (settle u')
      | .panicked ch => ∃ md' σ' β', R md' σ' ∧ Mv B β σ w β' σ' w' ∧ ModeRel B β' σ' w' md' (raised u' ch)
      | .outgrown => False)) (bodyPostS P fn c₀ cs fun e u' w' => match e with
      | .returned _ => ∃ md' σ' β', R md' σ' ∧ Mv B β σ w β' σ' w' ∧ ModeRel B β' σ' w' md' (settle u')
      | .panicked ch => ∃ md' σ' β', R md' σ' ∧ Mv B β σ w β' σ' w' ∧ ModeRel B β' σ' w' md' (raised u' ch)
      | .outgrown => False) .normal (Act.put { tmps := (va ++ ca).toArray ++ Array.replicate (N - (va ++ ca).toArray.size) undef, defers := [] } (some d) v) cs' w := by
    rintro cs' rfl
    refine wpS_of_wp ?_
    refine vwp_sound (B := ⟨β, σ, w, Zc B β σ w⟩) (drawH_ok hm) rest _ _ _ _ w β hdst h ?_ hb (ARel.put (dst := some d) hstart hv (fun e he => by cases he; exact hlt))
    have last : ∀ (s : VS) (a : Act) (w1 : World) (β1 : Bt), (s.df = [] ∧ ∃ n, σ.length ≤ n ∧ (s.σ.take n).all (okOb n) = true ∧ R none (s.σ.take n)) → WR ⟨β, σ, w, Zc B β σ w⟩ β1 s.σ w1 → ARel ⟨β, σ, w, Zc B β σ w⟩ β1 s.σ w1 N s.env s.df a →
        a.defers = [] ∧ ∃ u'', { c₀ with mode := u' } :: cs = { c₀ with mode := u'' } :: cs ∧ ∃ y, (results fn a.tmps).run P w1 = .ok y w1 ∧ ∃ md' σ' β', R md' σ' ∧ Mv B β σ w β' σ' w1 ∧ ModeRel B β' σ' w1 md' (settle u'') := by
      rintro s a w1 β1 ⟨hdf, n, hn, hokn, hR⟩ hw1 ha1
      refine ⟨List.eq_nil_of_length_eq_zero (by rw [← ha1.dfl, hdf]; rfl), u', rfl, ?_⟩
      have hw2 := hw1.take hn hokn
      obtain ⟨hmv, hz⟩ := rebase hw hw2
      refine ⟨.tuple #[], by simp [results, hres], none, _, β1, hR, hmv, ?_⟩
      rw [hset]; trivial
    intro xx s e a w1 β1 hk hw1 ha1 hx
    cases xx with
    | normal => cases e <;> first | exact hx.elim | exact last s a w1 β1 hk hw1 ha1
    | ret => cases e <;> first | exact hx.elim | exact last s a w1 β1 hk hw1 ha1
    | exit i => exact hk.elim
    | panic y => exact hk.elim
  have hrange : List.range (#[(⟨some d, .call ⟨.builtin .recover, #[], ctys⟩, ty, pos, after, none⟩ : Oper)]).size = [0] := rfl
  rw [hrange]
  simp only [wpOpsS, List.getElem?_toArray, List.getElem?_cons_zero, Region.wanted, if_true]
  have hrun : ∀ (a : Act) , (execOp a.eval ⟨some d, .call ⟨.builtin .recover, #[], ctys⟩, ty, pos, after, none⟩).run P w = .ok .recover w := by
    intro a; simp [execOp, resolve, invoke]; rfl
  rw [hrun]
  simp only
  cases hq : recoverD (c₀ :: cs) with
  | none =>
    rw [hq] at hrd
    obtain ⟨rfl, h2⟩ := hrd
    exact fin (c₀ :: cs) (by rw [h2])
  | some r =>
    obtain ⟨y, cs'⟩ := r
    rw [hq] at hrd
    obtain ⟨rfl, h2⟩ := hrd
    exact fin cs' h2
end
end Go.VL
