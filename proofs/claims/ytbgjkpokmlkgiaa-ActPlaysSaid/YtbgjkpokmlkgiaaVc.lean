/- V-logic, part P: calls. A function of plain data ('PFun'), a call in a store ('PCalls'), and the step from the one to the other. -/
import Derived.Test.YtbgjkpokmlkgiaaVb
namespace Go.VL
open Go

inductive R1 where
  | d (x : D)
  | fs (sz : Nat) (es : List (List D))

/-- What a function of plain data comes to: results (rows that are new are the caller's own), or a panic. -/
inductive Out where
  | ret (l : List R1)
  | pan (x : D)

inductive VO where
  | ret (x : PV)
  | pan (x : D)

def Called (P : Program) (g : FuncId) (vs : Array Value) (w : World) (Q : Ending → World → Prop) : Prop :=
  ((callFunc g vs).run P w = .ok (.enter g vs) w ∧ Calls P g vs w Q) ∨ ∃ v w', (callFunc g vs).run P w = .ok (.value v) w' ∧ Q (.returned v) w'

theorem Called.mono {P : Program} {g : FuncId} {vs : Array Value} {w : World} {Q Q' : Ending → World → Prop} (h : Called P g vs w Q) (hq : ∀ e w', Q e w' → Q' e w') : Called P g vs w Q' := by
  rcases h with ⟨h1, h2⟩ | ⟨v, w', h1, h2⟩
  · exact .inl ⟨h1, h2.mono hq⟩
  · exact .inr ⟨v, w', h1, hq _ _ h2⟩

def VORel (B : Base) (β : Bt) (σ : St) (w : World) : VO → Ending → Prop
  | .ret x, .returned v => VRel β σ w (Zc B β σ w) x v
  | .pan x, .panicked ch => ∃ v, ch = [{ v := v, recovered := false }] ∧ DRel w (Zc B β σ w) x v
  | _, _ => False

/-- A call in a store: it comes to one of these, whatever memory looks like. -/
def PCalls (P : Program) (m : Nat) (g : FuncId) (args : List PV) (σ : St) (R : VO → St → Prop) : Prop :=
  ∀ (B : Base) (β : Bt) (w : World) (vals : List Value), B.σ.length = m → WR B β σ w → VRelL β σ w (Zc B β σ w) args vals →
    Called P g vals.toArray w fun e w' => ∃ o σ' β', R o σ' ∧ Mv B β σ w β' σ' w' ∧ VORel B β' σ' w' o e

theorem PCalls.mono {P : Program} {m : Nat} {g : FuncId} {args : List PV} {σ : St} {R R' : VO → St → Prop} (h : PCalls P m g args σ R) (hr : ∀ o σ', R o σ' → R' o σ') : PCalls P m g args σ R' :=
  fun B β w vals h1 h2 h3 => (h B β w vals h1 h2 h3).mono fun _ _ ⟨o, σ', β', h4, h5, h6⟩ => ⟨o, σ', β', hr _ _ h4, h5, h6⟩

def thaw (n : Nat) : List R1 → List PV × St
  | [] => ([], [])
  | .d x :: l => (.d x :: (thaw n l).1, (thaw n l).2)
  | .fs sz es :: l => (.sl n 0 0 es.length :: (thaw (n + 1) l).1, .arr true 0 sz es :: (thaw (n + 1) l).2)
def retV : List PV → PV
  | [x] => x
  | l => .tup l

def base0 (w : World) (Z : Nat → Prop) : Base := ⟨fun _ => none, [], w, Z⟩

def DRelL (w : World) (Z : Nat → Prop) (ds : List D) (vs : List Value) : Prop :=
  ds.length = vs.length ∧ ∀ (j : Nat) (x : D) (v : Value), ds[j]? = some x → vs[j]? = some v → DRel w Z x v

/-- A function of plain data: whatever memory holds them. -/
def PFun (P : Program) (g : FuncId) (ds : List D) (o : Out) : Prop :=
  ∀ (w : World) (vals : List Value) (Z : Nat → Prop), (∀ b, Z b → b < w.heap.size) → DRelL w Z ds vals → Called P g vals.toArray w fun e w' =>
    match o with
    | .ret l => ∃ β v, e = .returned v ∧ WR (base0 w Z) β (thaw 0 l).2 w' ∧ VRel β (thaw 0 l).2 w' (Zc (base0 w Z) β (thaw 0 l).2 w') (retV (thaw 0 l).1) v
    | .pan x => ∃ v, e = .panicked [{ v := v, recovered := false }] ∧ WR (base0 w Z) (fun _ => none) [] w' ∧ DRel w' (Zc (base0 w Z) (fun _ => none) [] w') x v

/-- Data that lie nowhere. -/
def flat : Nat → D → Bool
  | 0, _ => false
  | _ + 1, .bool _ => true
  | _ + 1, .int _ _ => true
  | _ + 1, .flt _ => true
  | _ + 1, .str _ => true
  | _ + 1, .nilp => true
  | _ + 1, .nilf => true
  | _ + 1, .nili => true
  | n + 1, .ifc _ x => flat n x
  | n + 1, .agg l => l.all (flat n)
  | _, _ => false
def R1.flat : R1 → Bool
  | .d x => VL.flat 4 x
  | .fs _ es => es.all fun e => e.all (VL.flat 4)
def Out.flat : Out → Bool
  | .ret l => l.all R1.flat
  | .pan x => VL.flat 4 x

section
variable {P : Program} {B : Base} {β : Bt} {σ : St} {w w' : World} {Z Z' : Nat → Prop}

theorem flat_rel : ∀ (n : Nat) {x : D} {v : Value}, flat n x = true → DRel w Z x v → DRel w' Z' x v
  | 0, x, v, h, _ => by simp [flat] at h
  | n + 1, x, v, h, hd => by
    cases hd with
    | bool b => exact .bool b
    | int k m => exact .int k m
    | flt b => exact .flt b
    | str l s hs => exact .str l s hs
    | nilp => exact .nilp
    | nilf => exact .nilf
    | nili => exact .nili
    | ifc t x v hx => simp only [flat] at h; exact .ifc t x v (flat_rel n h hx)
    | agg c vs hn hr =>
      simp only [flat] at h
      exact .agg c vs hn fun j x v hj hv => flat_rel n (List.all_eq_true.1 h x (List.mem_of_getElem? hj)) (hr j x v hj hv)
    | _ => simp [flat] at h

def shift1 (n : Nat) : PV → PV
  | .sl id g s k => .sl (id + n) g s k
  | x => x
theorem thaw_shift (n : Nat) : ∀ (l : List R1) (k : Nat), thaw (k + n) l = ((thaw k l).1.map (shift1 n), (thaw k l).2)
  | [], k => rfl
  | .d x :: l, k => by simp only [thaw, thaw_shift n l k, List.map_cons, shift1]
  | .fs sz es :: l, k => by
    have := thaw_shift n l (k + 1)
    rw [show k + 1 + n = k + n + 1 from by omega] at this
    simp only [thaw, this, List.map_cons, shift1]
/-- What 'thaw' tells is data, or a row. -/
def isDS : PV → Bool
  | .d _ => true
  | .sl _ _ _ _ => true
  | _ => false
theorem thaw_ds : ∀ (l : List R1) (k : Nat), ∀ x ∈ (thaw k l).1, isDS x = true
  | [], k, x, h => by simp [thaw] at h
  | .d y :: l, k, x, h => by
    simp only [thaw, List.mem_cons] at h
    rcases h with rfl | h
    · rfl
    · exact thaw_ds l k x h
  | .fs sz es :: l, k, x, h => by
    simp only [thaw, List.mem_cons] at h
    rcases h with rfl | h
    · rfl
    · exact thaw_ds l (k + 1) x h
theorem thaw_arr : ∀ (l : List R1) (k : Nat), ∀ o ∈ (thaw k l).2, ∃ sz es, o = .arr true 0 sz es ∧ R1.fs sz es ∈ l
  | [], k, o, h => by simp [thaw] at h
  | .d y :: l, k, o, h => by
    simp only [thaw] at h
    obtain ⟨sz, es, h1, h2⟩ := thaw_arr l k o h
    exact ⟨sz, es, h1, List.mem_cons_of_mem _ h2⟩
  | .fs sz es :: l, k, o, h => by
    simp only [thaw, List.mem_cons] at h
    rcases h with rfl | h
    · exact ⟨sz, es, rfl, by simp⟩
    · obtain ⟨sz, es, h1, h2⟩ := thaw_arr l (k + 1) o h
      exact ⟨sz, es, h1, List.mem_cons_of_mem _ h2⟩
theorem thaw_d : ∀ (l : List R1) (k : Nat) (y : D), PV.d y ∈ (thaw k l).1 → R1.d y ∈ l
  | [], k, y, h => by simp [thaw] at h
  | .d z :: l, k, y, h => by
    simp only [thaw, List.mem_cons] at h
    rcases h with h | h
    · cases h; simp
    · exact List.mem_cons_of_mem _ (thaw_d l k y h)
  | .fs sz es :: l, k, y, h => by
    simp only [thaw, List.mem_cons, reduceCtorEq, false_or] at h
    exact List.mem_cons_of_mem _ (thaw_d l (k + 1) y h)

/-- Where the callee's new rows are told behind the caller's objects. -/
def joinBt (β : Bt) (n : Nat) (β' : Bt) : Bt := fun i => if i < n then β i else β' (i - n)

/-- The callee's world, seen by the caller. -/
theorem join_mv {τ : St} {β' : Bt} {ok : D → Prop} (h : WR B β σ w) (hc : WR (base0 w Z) β' τ w') (harr : ∀ o ∈ τ, ∃ sz es, o = .arr true 0 sz es ∧ ∀ e ∈ es, ∀ x ∈ e, ok x)
    (hok : ∀ x v, ok x → DRel w' (Zc (base0 w Z) β' τ w') x v → DRel w' (Zc B (joinBt β σ.length β') (σ ++ τ) w') x v) :
    Mv B β σ w (joinBt β σ.length β') (σ ++ τ) w' := by
  have hold : ∀ b, b < w.heap.size → w'.heap[b]? = w.heap[b]? := fun b hb => hc.keep b hb (by rintro ⟨id, o, p, h1, _⟩; simp [base0] at h1)
  have hnewblk : ∀ id o q, τ[id]? = some o → o.alive = true → β' id = some q → w.heap.size ≤ q.blk := by
    intro id o q h1 h2 h3
    rcases hc.place id o q h1 h2 h3 with h4 | ⟨o0, q0, h4, _⟩
    · exact h4
    · simp [base0] at h4
  have hget : ∀ id o, (σ ++ τ)[id]? = some o → (id < σ.length ∧ σ[id]? = some o) ∨ (σ.length ≤ id ∧ τ[id - σ.length]? = some o) := by
    intro id o h1
    rcases Nat.lt_or_ge id σ.length with hl | hl
    · rw [List.getElem?_append_left hl] at h1; exact .inl ⟨hl, h1⟩
    · rw [List.getElem?_append_right hl] at h1; exact .inr ⟨hl, h1⟩
  have hown : ∀ b, Own (joinBt β σ.length β') (σ ++ τ) b → Own β σ b ∨ w.heap.size ≤ b := by
    rintro b ⟨id, o, p, h1, h2, h3, h4⟩
    rcases hget id o h1 with ⟨hl, ho⟩ | ⟨hl, ho⟩
    · simp only [joinBt, if_pos hl] at h3; exact .inl ⟨id, o, p, ho, h2, h3, h4⟩
    · simp only [joinBt, if_neg (Nat.not_lt.2 hl)] at h3
      exact .inr (h4 ▸ hnewblk _ o p ho (Ob.alive_of_live h2) h3)
  have hext : Ext β σ (joinBt β σ.length β') (σ ++ τ) := by
    intro id o ho
    have hl := get_lt ho
    exact ⟨o, by rw [List.getElem?_append_left hl]; exact ho, Nat.le_refl _, fun _ ha => ⟨ha, by simp [joinBt, hl]⟩⟩
  have hpl : Plc β σ w.heap.size (joinBt β σ.length β') (σ ++ τ) := by
    intro id o q h1 h2 h3
    rcases hget id o h1 with ⟨hl, ho⟩ | ⟨hl, ho⟩
    · simp only [joinBt, if_pos hl] at h3; exact .inr ⟨o, q, ho, h2, h3, rfl⟩
    · simp only [joinBt, if_neg (Nat.not_lt.2 hl)] at h3; exact .inl (hnewblk _ o q ho h2 h3)
  have hk := cells_of (B := B) (β := β) (σ := σ) (w := w) (w' := w') (fun b hb _ => hold b hb)
  have hz := zc_of (B := B) hc.size hown
  refine Mv.mk' h hc.size (fun b hb _ => hold b hb) hown hext hc.rest hpl ⟨?_, ?_⟩
  · intro id o h1
    rcases hget id o h1 with ⟨hl, ho⟩ | ⟨hl, ho⟩
    · have hb : joinBt β σ.length β' id = β id := by simp [joinBt, hl]
      rw [hb]
      exact (h.inv.holds id o ho).mono hext hk hz (fun q hq ha => hold _ (Inv.lt h ho ha hq))
    · have hb : joinBt β σ.length β' id = β' (id - σ.length) := by simp [joinBt, Nat.not_lt.2 hl]
      rw [hb]
      have hh := hc.inv.holds _ o ho
      obtain ⟨sz, es, rfl, hes⟩ := harr o (List.mem_of_getElem? ho)
      obtain ⟨h2, h3⟩ := hh
      refine ⟨h2, ?_⟩
      cases hp : β' (id - σ.length) with
      | none => rw [hp] at h3; exact h3
      | some q =>
        rw [hp] at h3
        obtain ⟨h4, h5, h6, h7⟩ := h3
        refine ⟨h4, h5, h6, fun i j e x hi hj => ?_⟩
        obtain ⟨v, hv, h1', hd⟩ := h7 i j e x hi hj
        exact ⟨v, hv, h1', hok x v (hes e (List.mem_of_getElem? hi) x (List.mem_of_getElem? hj)) hd⟩
  · intro id o id' o' p p' h1 h2 hl ha hne hp hp'
    rcases hget id o h1 with ⟨hi, ho⟩ | ⟨hi, ho⟩ <;> rcases hget id' o' h2 with ⟨hi', ho'⟩ | ⟨hi', ho'⟩
    · simp only [joinBt, if_pos hi] at hp; simp only [joinBt, if_pos hi'] at hp'
      exact h.inv.apart id o id' o' p p' ho ho' hl ha hne hp hp'
    · simp only [joinBt, if_pos hi] at hp; simp only [joinBt, if_neg (Nat.not_lt.2 hi')] at hp'
      have := Inv.lt h ho (Ob.alive_of_live hl) hp
      have := hnewblk _ o' p' ho' ha hp'
      omega
    · simp only [joinBt, if_neg (Nat.not_lt.2 hi)] at hp; simp only [joinBt, if_pos hi'] at hp'
      have := Inv.lt h ho' ha hp'
      have := hnewblk _ o p ho (Ob.alive_of_live hl) hp
      omega
    · simp only [joinBt, if_neg (Nat.not_lt.2 hi)] at hp; simp only [joinBt, if_neg (Nat.not_lt.2 hi')] at hp'
      exact hc.inv.apart _ o _ o' p p' ho ho' hl ha (by omega) hp hp'

theorem join_ds {τ : St} {β' : Bt} {x : PV} {v : Value} (hx : isDS x = true) (hd : ∀ y, x = .d y → DRel w' Z y v → DRel w' Z' y v) (hv : VRel β' τ w' Z x v) :
    VRel (joinBt β σ.length β') (σ ++ τ) w' Z' (shift1 σ.length x) v := by
  cases hv with
  | d y v h => exact .d _ _ (hd y rfl h)
  | sl id g s n a m c o ho hg hp =>
    refine .sl _ _ _ _ _ _ _ o (by rw [List.getElem?_append_right (by omega)]; simpa using ho) hg (fun h1 h2 => ?_)
    have : joinBt β σ.length β' (id + σ.length) = β' id := by simp only [joinBt]; rw [if_neg (by omega)]; congr 1; omega
    rw [this]; exact hp h1 h2
  | _ => simp [isDS] at hx

theorem join_ret {τ : St} {β' : Bt} {xs : List PV} {v : Value} (hx : ∀ x ∈ xs, isDS x = true) (hd : ∀ y, PV.d y ∈ xs → ∀ v, DRel w' Z y v → DRel w' Z' y v) (hv : VRel β' τ w' Z (retV xs) v) :
    VRel (joinBt β σ.length β') (σ ++ τ) w' Z' (retV (xs.map (shift1 σ.length))) v := by
  have tup : ∀ {xs : List PV}, (∀ x ∈ xs, isDS x = true) → (∀ y, PV.d y ∈ xs → ∀ v, DRel w' Z y v → DRel w' Z' y v) → VRel β' τ w' Z (.tup xs) v → VRel (joinBt β σ.length β') (σ ++ τ) w' Z' (.tup (xs.map (shift1 σ.length))) v := by
    intro xs hx hd hv
    cases hv with
    | tup c vs hn hr =>
      refine .tup _ _ (by simpa using hn) (fun j x v hj hv => ?_)
      rw [List.getElem?_map] at hj
      cases hc : xs[j]? with
      | none => rw [hc] at hj; simp at hj
      | some y =>
        rw [hc] at hj; simp at hj; subst hj
        have hm := List.mem_of_getElem? hc
        exact join_ds (hx y hm) (fun z hz => by subst hz; exact hd z hm v) (hr j y v hc hv)
  match xs, hx, hd, hv with
  | [], hx, hd, hv => exact tup hx hd hv
  | [x], hx, hd, hv => exact join_ds (hx x (by simp)) (fun z hz => by subst hz; exact hd z (by simp) v) hv
  | x :: y :: l, hx, hd, hv => exact tup hx hd hv

/-- A function of plain data, called where nothing of what it comes to lies in memory but its new rows. -/
theorem PCalls.flat {m : Nat} {g : FuncId} {args : List PV} {ds : List D} {o : Out} {R : VO → St → Prop} (h : PFun P g ds o) (ha : closeL σ args = some ds) (hf : o.flat = true)
    (hr : match o with
      | .ret l => R (.ret (retV (thaw σ.length l).1)) (σ ++ (thaw σ.length l).2)
      | .pan x => R (.pan x) σ) : PCalls P m g args σ R := by
  intro B β w vals hm hw hv
  obtain ⟨h1, h2⟩ := mapM_some ha
  have hds : DRelL w (fun b => b < w.heap.size) ds vals := by
    refine ⟨by rw [← h1]; exact hv.1, fun j x v hx hu => ?_⟩
    have hj : j < args.length := by rw [h1]; exact get_lt hx
    exact toD_rel hw 5 _ v x (h2 j _ x (List.getElem?_eq_getElem hj) hx) (hv.2 j _ v (List.getElem?_eq_getElem hj) hu)
  refine (h w vals (fun b => b < w.heap.size) (fun _ h => h) hds).mono ?_
  intro e w' hpost
  cases o with
  | ret l =>
    obtain ⟨β', v, rfl, hwr, hval⟩ := hpost
    have hfl : ∀ r ∈ l, r.flat = true := List.all_eq_true.1 hf
    have hmv : Mv B β σ w (joinBt β σ.length β') (σ ++ (thaw 0 l).2) w' := by
      refine join_mv (ok := fun x => VL.flat 4 x = true) hw hwr ?_ (fun x v hx hd => flat_rel 4 hx hd)
      intro o ho
      obtain ⟨sz, es, he, hmem⟩ := thaw_arr l 0 o ho
      refine ⟨sz, es, he, fun e he' x hx => ?_⟩
      have := hfl _ hmem
      simp only [R1.flat, List.all_eq_true] at this
      exact this e he' x hx
    have hth := thaw_shift σ.length l 0
    rw [Nat.zero_add] at hth
    simp only [hth] at hr
    refine ⟨_, _, joinBt β σ.length β', hr, hmv, ?_⟩
    exact join_ret (thaw_ds l 0) (fun y hy v hd => flat_rel 4 (hfl _ (thaw_d l 0 y hy)) hd) hval
  | pan x =>
    obtain ⟨v, rfl, hwr, hval⟩ := hpost
    have hmv := join_mv (ok := fun _ => False) hw hwr (by simp) (by simp)
    rw [List.append_nil] at hmv
    exact ⟨.pan x, σ, _, hr, hmv, v, rfl, flat_rel 4 hf hval⟩

theorem frzs_length : ∀ (l : List Nat) (τ : St), (l.foldl frz1 τ).length = τ.length
  | [], τ => rfl
  | a :: l, τ => by rw [List.foldl_cons, frzs_length l]; unfold frz1; split <;> simp
theorem frzL_length (σ : St) (c : List PV) : (frzL σ c).length = σ.length := frzs_length _ _

/-- A function of plain data, whose results may lie where its arguments lie: these are written no more. -/
theorem PCalls.frz {m : Nat} {g : FuncId} {args : List PV} {ds : List D} {l : List R1} {R : VO → St → Prop} (h : PFun P g ds (.ret l)) (ha : closeL σ args = some ds) (hid : (idsL σ args).all (fun j => decide (m ≤ j)) = true)
    (hr : R (.ret (retV (thaw σ.length l).1)) (frzL σ args ++ (thaw σ.length l).2)) : PCalls P m g args σ R := by
  intro B β w vals hm hw hv
  obtain ⟨hm1, hl1, hr1⟩ := closeL_sound hw ha hv (fun id hi => by rw [hm]; exact of_decide_eq_true (List.all_eq_true.1 hid id hi))
  refine (h w vals (Zc B β (frzL σ args) w) (fun b hb => hb.2.2) ⟨hl1, hr1⟩).mono ?_
  rintro e w' ⟨β', v, rfl, hwr, hval⟩
  have hz : ∀ b, Zc (base0 w (Zc B β (frzL σ args) w)) β' (thaw 0 l).2 w' b → Zc B (joinBt β (frzL σ args).length β') (frzL σ args ++ (thaw 0 l).2) w' b := by
    rintro b ⟨h1, h2, h3⟩
    have hsz := hm1.wr.size
    refine ⟨?_, ?_, h3⟩
    · rcases h1 with h1 | h1
      · exact h1.1
      · exact .inr (Nat.le_trans hsz h1)
    · rintro ⟨id, o, p, h4, h5, h6, h7⟩
      rcases Nat.lt_or_ge id (frzL σ args).length with hl | hl
      · rw [List.getElem?_append_left hl] at h4
        simp only [joinBt, if_pos hl] at h6
        have hlt := Inv.lt hm1.wr h4 (Ob.alive_of_live h5) h6
        rcases h1 with h1 | h1
        · exact h1.2.1 ⟨id, o, p, h4, h5, h6, h7⟩
        · have : w.heap.size ≤ b := h1
          omega
      · rw [List.getElem?_append_right hl] at h4
        simp only [joinBt, if_neg (Nat.not_lt.2 hl)] at h6
        exact h2 ⟨_, o, p, h4, h5, h6, h7⟩
  have hmv : Mv B β (frzL σ args) w (joinBt β (frzL σ args).length β') (frzL σ args ++ (thaw 0 l).2) w' := by
    refine join_mv (ok := fun _ => True) hm1.wr hwr ?_ (fun x v _ hd => hd.mono (fun _ _ _ _ h => h) hz)
    intro o ho
    obtain ⟨sz, es, he, hmem⟩ := thaw_arr l 0 o ho
    exact ⟨sz, es, he, fun _ _ _ _ => trivial⟩
  have hth := thaw_shift σ.length l 0
  rw [Nat.zero_add] at hth
  simp only [hth] at hr
  refine ⟨_, _, _, hr, hm1.trans hmv, ?_⟩
  have := join_ret (β := β) (σ := frzL σ args) (thaw_ds l 0) (fun y hy v hd => DRel.mono hd (fun _ _ _ _ h => h) hz) hval
  rw [frzL_length] at this ⊢
  exact this
end
end Go.VL
namespace Go.VL
open Go

structure DV where
  f : FuncId
  captured : List PV
  args : List PV

structure VS where
  env : Env
  df : List DV
  σ : St

def upd (env : Env) (t : Nat) (x : PV) : Env := fun i => if i = t then x else env i
def putV (env : Env) (dst : Option Tmp) (x : PV) : Env :=
  match dst with
  | some d => upd env d x
  | none => env

inductive VX where
  | normal
  | exit (id : Nat)
  | ret
  | panic (x : D)

/-- Which function a value is, and what it brings along: first, and behind. -/
def fnOf : PV → Option (FuncId × List PV × List PV)
  | .d (.fn (.func g) a b) => some (g, a.map .d, b.map .d)
  | .fn (.func g) a b => some (g, a, b)
  | _ => none

def ob {α : Type} (o : Option α) (k : α → Prop) : Prop :=
  match o with
  | some a => k a
  | none => False

/-- A call is back. -/
def CallK (K : VX → VS → Prop) (next : VS → Prop) (dst : Option Tmp) (s : VS) : VO → St → Prop
  | .ret x, σ' => next ⟨putV s.env dst x, s.df, σ'⟩
  | .pan x, σ' => K (.panic x) ⟨s.env, s.df, σ'⟩
def StepK (next : VS → Prop) (dst : Option Tmp) (s : VS) (r : PV × St) : Prop := next ⟨putV s.env dst r.1, s.df, r.2⟩
def FnK (P : Program) (m : Nat) (K : VX → VS → Prop) (next : VS → Prop) (dst : Option Tmp) (s : VS) (args : List PV) (r : FuncId × List PV × List PV) : Prop :=
  PCalls P m r.1 (r.2.1 ++ args ++ r.2.2) s.σ (CallK K next dst s)
def DeferK (next : VS → Prop) (dst : Option Tmp) (s : VS) (args : List PV) (r : FuncId × List PV × List PV) : Prop :=
  next ⟨putV s.env dst .any, ⟨r.1, r.2.2, r.2.1 ++ args⟩ :: s.df, s.σ⟩
def isIfc : PV → Option D
  | .d (.ifc t x) => some (.ifc t x)
  | _ => none
def PanK (K : VX → VS → Prop) (s : VS) (x : D) : Prop := K (.panic x) s

def vstep (P : Program) (m : Nat) (o : Oper) (K : VX → VS → Prop) (next : VS → Prop) (s : VS) : Prop :=
  match o.op with
  | .panic x => ob (isIfc (veval s.env x)) (PanK K s)
  | .defer c => match c.callee with
    | .value f => ob (fnOf (veval s.env f)) (DeferK next o.dst s (c.args.toList.map (veval s.env)))
    | _ => False
  | .call c => match c.callee with
    | .value f => ob (fnOf (veval s.env f)) (FnK P m K next o.dst s (c.args.toList.map (veval s.env)))
    | .builtin b => ob (vbuiltin P s.σ b c.argTypes (c.args.toList.map (veval s.env))) (StepK next o.dst s)
    | _ => False
  | op => ob (vop P m s.σ (veval s.env) op) (StepK next o.dst s)

/-- What a guard was told. -/
def guardV (ops : Array Oper) (env : Env) (j : Nat) : Option (Option Bool) :=
  match (ops[j]?).bind (·.dst) with
  | some t => match env t with
    | .d (.bool b) => some (some b)
    | .tup [] => some none
    | _ => none
  | none => none
def GuardK (yes no : VS → Prop) (want : Bool) (s s' : VS) (b : Option Bool) : Prop := if b = some want then yes s else no s'

def vops (P : Program) (m : Nat) (ops : Array Oper) (K : VX → VS → Prop) : List Oper → VS → Prop
  | [], s => K .normal s
  | o :: rest, s => match o.guard with
    | none => vstep P m o K (vops P m ops K rest) s
    | some (j, want) => ob (guardV ops s.env j) (GuardK (vstep P m o K (vops P m ops K rest)) (vops P m ops K rest) want s ⟨putV s.env o.dst (.tup []), s.df, s.σ⟩)

def DVRel (β : Bt) (σ : St) (w : World) (Z : Nat → Prop) (x : DV) (d : Deferred) : Prop :=
  ∃ va ca, d.target = .fn (.func x.f) ca.toArray ∧ d.args = va.toArray ∧ VRelL β σ w Z x.captured ca ∧ VRelL β σ w Z x.args va

structure ARel (B : Base) (β : Bt) (σ : St) (w : World) (N : Nat) (env : Env) (df : List DV) (a : Act) : Prop where
  size : a.tmps.size = N
  env : ∀ t, VRel β σ w (Zc B β σ w) (env t) (a.tmps.getD t undef)
  dfl : df.length = a.defers.length
  df : ∀ (j : Nat) (x : DV) (d : Deferred), df[j]? = some x → a.defers[j]? = some d → DVRel β σ w (Zc B β σ w) x d

def XRel (B : Base) (β : Bt) (σ : St) (w : World) : VX → Exit → Prop
  | .normal, .normal => True
  | .exit i, .exit j => i = j
  | .ret, .ret => True
  | .panic x, .panic ch => ∃ v, ch = [{ v := v, recovered := false }] ∧ DRel w (Zc B β σ w) x v
  | _, _ => False

section
variable {P : Program} {B : Base} {β β' : Bt} {σ σ' : St} {w w' : World} {Z : Nat → Prop} {N : Nat} {env : Env} {df : List DV} {a : Act}

theorem VRelL.mono' (h : Mv B β σ w β' σ' w') {xs : List PV} {vs : List Value} (hv : VRelL β σ w (Zc B β σ w) xs vs) : VRelL β' σ' w' (Zc B β' σ' w') xs vs :=
  ⟨hv.1, fun j x v hx hu => h.vrel (hv.2 j x v hx hu)⟩

theorem ARel.mono (h : Mv B β σ w β' σ' w') (ha : ARel B β σ w N env df a) : ARel B β' σ' w' N env df a :=
  ⟨ha.size, fun t => h.vrel (ha.env t), ha.dfl, fun j x d hx hd => by
    obtain ⟨va, ca, h1, h2, h3, h4⟩ := ha.df j x d hx hd
    exact ⟨va, ca, h1, h2, VRelL.mono' h h3, VRelL.mono' h h4⟩⟩

theorem ARel.put (ha : ARel B β σ w N env df a) {dst : Option Tmp} {x : PV} {v : Value} (hv : VRel β σ w (Zc B β σ w) x v) (hd : ∀ d, dst = some d → d < N) : ARel B β σ w N (putV env dst x) df (a.put dst v) := by
  cases dst with
  | none => exact ha
  | some d =>
    have hdN : d < a.tmps.size := by rw [ha.size]; exact hd d rfl
    refine ⟨by simpa [Act.put] using ha.size, fun t => ?_, ha.dfl, ha.df⟩
    simp only [putV, upd, Act.put]
    by_cases e : t = d
    · subst e; rw [if_pos rfl]; simpa [Array.getD, hdN] using hv
    · rw [if_neg e]
      have : (a.tmps.setIfInBounds d v).getD t undef = a.tmps.getD t undef := by
        simp only [Array.getD_eq_getD_getElem?, Array.getElem?_setIfInBounds]
        rw [if_neg (fun h : d = t => e h.symm)]
      rw [this]; exact ha.env t

theorem undef_rel {Z : Nat → Prop} : VRel β σ w Z (.tup []) undef := .tup [] [] rfl (by simp)
theorem yielded_of {ops : Array Oper} {j : Nat} {b : Option Bool} (ha : ARel B β σ w N env df a) (h : guardV ops env j = some b) : yielded ops a.tmps j = b := by
  unfold guardV at h
  split at h
  · rename_i t ht
    split at h
    · rename_i b' hb
      cases h
      have hv := ha.env t
      rw [hb] at hv
      generalize hu : a.tmps.getD t undef = u at hv
      cases hv with
      | d _ _ hd =>
        cases hd
        have : a.tmps[t]? = some (.bool b') := by
          rw [Array.getD_eq_getD_getElem?] at hu
          cases hq : a.tmps[t]? with
          | none => rw [hq] at hu; simp [undef] at hu
          | some y => rw [hq] at hu; simp at hu; rw [hu]
        unfold yielded
        rw [ht]
        simp [this]
    · rename_i hb
      cases h
      have hv := ha.env t
      rw [hb] at hv
      generalize hu : a.tmps.getD t undef = u at hv
      cases hv with
      | tup _ vs hn hr =>
        have hvs : vs = [] := List.eq_nil_of_length_eq_zero hn.symm
        subst hvs
        unfold yielded
        rw [ht]
        rw [Array.getD_eq_getD_getElem?] at hu
        cases hq : a.tmps[t]? with
        | none => simp [hq]
        | some y => rw [hq] at hu; simp at hu; subst hu; simp [hq]
    · simp at h
  · simp at h

/-- The post of what is left. -/
def Post (B : Base) (N : Nat) (K : VX → VS → Prop) (Q : Exit → Act → World → Prop) : Prop :=
  ∀ x s e a w β, K x s → WR B β s.σ w → ARel B β s.σ w N s.env s.df a → XRel B β s.σ w x e → Q e a w

theorem fnOf_rel {x : PV} {v : Value} {r : FuncId × List PV × List PV} (h : fnOf x = some r) (hv : VRel β σ w Z x v) :
    ∃ va vb, v = .func (.func r.1) va.toArray vb.toArray ∧ VRelL β σ w Z r.2.1 va ∧ VRelL β σ w Z r.2.2 vb := by
  unfold fnOf at h
  split at h
  · rename_i g la lb
    cases h
    cases hv with
    | d _ _ hd =>
      cases hd with
      | fn _ _ _ va vb ha hb hra hrb =>
        refine ⟨va, vb, rfl, ⟨by simpa using ha, fun j x v hj hv => ?_⟩, ⟨by simpa using hb, fun j x v hj hv => ?_⟩⟩
        · rw [List.getElem?_map] at hj
          cases hc : la[j]? with
          | none => rw [hc] at hj; simp at hj
          | some y => rw [hc] at hj; simp at hj; subst hj; exact .d _ _ (hra j y v hc hv)
        · rw [List.getElem?_map] at hj
          cases hc : lb[j]? with
          | none => rw [hc] at hj; simp at hj
          | some y => rw [hc] at hj; simp at hj; subst hj; exact .d _ _ (hrb j y v hc hv)
  · cases h
    cases hv with
    | fn f a b va vb ha hb hra hrb => exact ⟨va, vb, rfl, ⟨ha, hra⟩, ⟨hb, hrb⟩⟩
  · simp at h

theorem VRelL.append {xs ys : List PV} {vs us : List Value} (h : VRelL β σ w Z xs vs) (h' : VRelL β σ w Z ys us) : VRelL β σ w Z (xs ++ ys) (vs ++ us) := by
  refine ⟨by simp [h.1, h'.1], fun j x v hj hv => ?_⟩
  have hl := h.1
  rcases Nat.lt_or_ge j xs.length with h1 | h1
  · rw [List.getElem?_append_left h1] at hj; rw [List.getElem?_append_left (by omega)] at hv; exact h.2 j x v hj hv
  · rw [List.getElem?_append_right h1] at hj; rw [List.getElem?_append_right (by omega)] at hv
    rw [← hl] at hv; exact h'.2 _ x v hj hv

/-- One operation. -/
theorem vstep_sound (hw : WR B β σ w) (ha : ARel B β σ w N env df a) {o : Oper} {K : VX → VS → Prop} {next : VS → Prop} {Q : Exit → Act → World → Prop} {knext : Act → World → Prop}
    (hd : ∀ d, o.dst = some d → d < N) (h : vstep P B.σ.length o K next ⟨env, df, σ⟩) (hQ : Post B N K Q)
    (hn : ∀ s a w β, next s → WR B β s.σ w → ARel B β s.σ w N s.env s.df a → knext a w) : o.wp P a w knext Q := by
  have hρ : ∀ x, VRel β σ w (Zc B β σ w) (veval env x) (a.eval x) := veval_rel ha.env
  have fin : ∀ {x : PV} {σ' : St}, StepK next o.dst ⟨env, df, σ⟩ (x, σ') → Runs P B β σ w o a.eval x σ' → o.wp P a w knext Q := by
    rintro x σ' hk ⟨v, w', β', hr, hm, hv⟩
    have := hn _ (a.put o.dst v) w' β' hk hm.wr ((ha.mono hm).put hv hd)
    rcases hr with hr | ⟨hr, rfl⟩
    · unfold Oper.wp; rw [hr, Oper.upon_value]; exact this
    · unfold Oper.wp; rw [hr, Oper.upon_skip]; exact this
  have gen : ob (vop P B.σ.length σ (veval env) o.op) (StepK next o.dst ⟨env, df, σ⟩) → o.wp P a w knext Q := by
    intro h
    cases hv : vop P B.σ.length σ (veval env) o.op with
    | none => rw [hv] at h; exact h.elim
    | some r => rw [hv] at h; exact fin h (vop_sound hw hρ hv)
  obtain ⟨dst, op, type, pos, after, guard⟩ := o
  cases op with
  | panic x =>
    simp only [vstep] at h
    cases hi : isIfc (veval env x) with
    | none => rw [hi] at h; exact h.elim
    | some d =>
      rw [hi] at h
      unfold isIfc at hi
      split at hi
      · rename_i t y hx
        cases hi
        have hv := hρ x
        rw [hx] at hv
        generalize hu : a.eval x = u at hv
        cases hv with
        | d _ _ hd' =>
          have hd0 := hd'
          cases hd' with
          | ifc _ _ v hv' =>
            unfold Oper.wp
            have : (execOp a.eval ⟨dst, .panic x, type, pos, after, guard⟩).run P w = .halt (.panic (.iface t v)) w := by
              simp [execOp, hu, Instr.panic]
            rw [this, Oper.upon_panic]
            exact hQ _ _ _ a w β h hw ha ⟨_, rfl, hd0⟩
      · simp at hi
  | defer c =>
    simp only [vstep] at h
    obtain ⟨callee, cargs, ctys⟩ := c
    cases callee with
    | value f =>
      simp only at h
      cases hf : fnOf (veval env f) with
      | none => rw [hf] at h; exact h.elim
      | some r =>
        rw [hf] at h
        obtain ⟨va, vb, he, h1, h2⟩ := fnOf_rel hf (hρ f)
        unfold Oper.wp
        have : (execOp a.eval ⟨dst, .defer ⟨.value f, cargs, ctys⟩, type, pos, after, guard⟩).run P w = .ok (.defer ⟨.fn (.func r.1) vb.toArray, va.toArray ++ cargs.map a.eval⟩) w := by
          simp [execOp, resolve, he, Deferred.ofValue]
        rw [this, Oper.upon_defer]
        refine hn _ _ w β h hw ?_
        have hp := ha.put (dst := dst) (v := undef) (VRel.any undef) hd
        refine ⟨?_, ?_, ?_, ?_⟩
        · have := hp.size; cases dst <;> simpa [Act.put] using this
        · intro t; have := hp.env t; cases dst <;> simpa [Act.put] using this
        · have hl := ha.dfl; cases dst <;> simpa [Act.put] using hl
        · intro j x d hj hdj
          have hdj' : ((⟨.fn (.func r.1) vb.toArray, va.toArray ++ cargs.map a.eval⟩ : Deferred) :: a.defers)[j]? = some d := by
            cases dst <;> simpa [Act.put] using hdj
          cases j with
          | zero =>
            simp at hj hdj'; subst hj; subst hdj'
            refine ⟨va ++ cargs.toList.map a.eval, vb, rfl, ?_, h2, h1.append (mapL_rel hρ cargs.toList)⟩
            apply Array.ext'; simp
          | succ j => simp at hj hdj'; exact ha.df j x d hj hdj'
    | invoke r mth => simp at h
    | builtin b => simp at h
  | call c =>
    simp only [vstep] at h
    obtain ⟨callee, cargs, ctys⟩ := c
    cases callee with
    | value f =>
      simp only at h
      cases hf : fnOf (veval env f) with
      | none => rw [hf] at h; exact h.elim
      | some r =>
        rw [hf] at h
        obtain ⟨va, vb, he, h1, h2⟩ := fnOf_rel hf (hρ f)
        have hargs := (h1.append (mapL_rel hρ cargs.toList)).append h2
        have hcall := h B β w _ rfl hw hargs
        have heq : (va ++ cargs.toList.map a.eval ++ vb).toArray = va.toArray ++ cargs.map a.eval ++ vb.toArray := by apply Array.ext'; simp
        rw [heq] at hcall
        have hrun : (execOp a.eval ⟨dst, .call ⟨.value f, cargs, ctys⟩, type, pos, after, guard⟩).run P w = (callFunc r.1 (va.toArray ++ cargs.map a.eval ++ vb.toArray)).run P w := by
          simp [execOp, resolve, he, Deferred.ofValue, invoke]
        have back : ∀ e w', (∃ o σ' β', CallK K next dst ⟨env, df, σ⟩ o σ' ∧ Mv B β σ w β' σ' w' ∧ VORel B β' σ' w' o e) →
            (match e, w' with
              | .returned v, w'' => knext (a.put dst v) w''
              | .panicked chain, w'' => Q (.panic chain) a w''
              | .outgrown, _ => LetsOut Q) := by
          rintro e w' ⟨o, σ', β', hk, hm, ho⟩
          cases o with
          | ret x =>
            cases e with
            | returned v => exact hn _ _ w' β' hk hm.wr ((ha.mono hm).put ho hd)
            | _ => exact ho.elim
          | pan x =>
            cases e with
            | panicked ch => exact hQ _ _ _ a w' β' hk hm.wr (ha.mono hm) ho
            | _ => exact ho.elim
        unfold Oper.wp
        rw [hrun]
        rcases hcall with ⟨hc1, hc2⟩ | ⟨v, w', hc1, hc2⟩
        · rw [hc1, Oper.upon_enter]
          exact hc2.mono back
        · rw [hc1, Oper.upon_value]
          exact back _ _ hc2
    | builtin b =>
      simp only at h
      refine gen ?_
      simp only [vop]
      exact h
    | invoke r mth => simp at h
  | _ => exact gen h

theorem vops_sound {ops : Array Oper} (hd : ∀ o ∈ ops.toList, ∀ d, o.dst = some d → d < N) {K : VX → VS → Prop} {Q : Exit → Act → World → Prop} (hQ : Post B N K Q) :
    ∀ (rest : List Oper) (i : Nat) (s : VS) (a : Act) (w : World) (β : Bt), ops.toList.drop i = rest → vops P B.σ.length ops K rest s → WR B β s.σ w → ARel B β s.σ w N s.env s.df a →
      wpOps P ops Q (List.range' i rest.length) a w
  | [], i, s, a, w, β, _, h, hw, ha => hQ _ _ _ a w β h hw ha trivial
  | o :: rest, i, s, a, w, β, hdr, h, hw, ha => by
    have hi : ops[i]? = some o := by
      have : ops.toList[i]? = some o := by
        have := congrArg (fun l => l[0]?) hdr
        simpa using this
      simpa using this
    have hmem : o ∈ ops.toList := by
      have : ops.toList[i]? = some o := by simpa using hi
      exact List.mem_of_getElem? this
    have hdr' : ops.toList.drop (i + 1) = rest := by
      have := congrArg (List.drop 1) hdr
      simpa [List.drop_drop] using this
    have ih := vops_sound hd hQ rest (i + 1)
    rw [List.length_cons, List.range'_succ]
    simp only [wpOps, hi]
    have yes : ∀ s, vstep P B.σ.length o K (vops P B.σ.length ops K rest) s → WR B β s.σ w → ARel B β s.σ w N s.env s.df a → o.wp P a w (wpOps P ops Q (List.range' (i + 1) rest.length)) Q :=
      fun s h hw ha => vstep_sound hw ha (hd o hmem) h hQ (fun s a w β hn hw ha => ih s a w β hdr' hn hw ha)
    simp only [vops] at h
    cases hg : o.guard with
    | none =>
      rw [hg] at h
      have : Region.wanted o (yielded ops a.tmps) = true := by simp [Region.wanted, hg]
      rw [if_pos this]
      exact .inl (yes s h hw ha)
    | some g =>
      obtain ⟨j, want⟩ := g
      rw [hg] at h
      simp only at h
      cases hgv : guardV ops s.env j with
      | none => rw [hgv] at h; exact h.elim
      | some b =>
        rw [hgv] at h
        have hy := yielded_of ha hgv
        have hwn : Region.wanted o (yielded ops a.tmps) = (b == some want) := by
          simp [Region.wanted, hg, hy]
        simp only [ob, GuardK] at h
        by_cases e : b = some want
        · rw [if_pos e] at h
          rw [if_pos (by rw [hwn]; simpa using e)]
          exact .inl (yes s h hw ha)
        · rw [if_neg e] at h
          rw [if_neg (by rw [hwn]; simpa using e)]
          exact ih _ _ w β hdr' h hw (ha.put undef_rel (hd o hmem))
end
end Go.VL
namespace Go.VL
open Go

def Then (next : VS → Prop) (K : VX → VS → Prop) : VX → VS → Prop
  | .normal, s => next s
  | x, s => K x s
def Blk (id : Nat) (K : VX → VS → Prop) : VX → VS → Prop
  | .exit i, s => if i = id then K .normal s else K (.exit i) s
  | x, s => K x s
def boolOf : PV → Option Bool
  | .d (.bool b) => some b
  | _ => none
def CondK (yes no : VS → Prop) (s : VS) (b : Bool) : Prop := if b = true then yes s else no s

/-- A value speaks of the first n objects alone. -/
def okV (n : Nat) : Nat → PV → Bool
  | 0, _ => false
  | _ + 1, .any => true
  | _ + 1, .d _ => true
  | _ + 1, .nil => true
  | _ + 1, .nz => true
  | _ + 1, .sl id _ _ _ => decide (id < n)
  | _ + 1, .ptr id _ _ _ => decide (id < n)
  | k + 1, .agg c => c.all (okV n k)
  | k + 1, .tup c => c.all (okV n k)
  | k + 1, .fn _ a b => a.all (okV n k) && b.all (okV n k)
def okOb (n : Nat) : Ob → Bool
  | .box _ _ c => c.all (okV n 4)
  | _ => true
def forget (n : Nat) (env : Env) : Env := fun t => if okV n 5 (env t) = true then env t else .any

/-- Less is told: of the objects the first n, of the variables those that speak of these. -/
def Weak (m : Nat) (s s' : VS) : Prop :=
  s'.df = s.df ∧ s.df.all (fun x => x.captured.all (okV s'.σ.length 4) && x.args.all (okV s'.σ.length 4)) = true ∧ m ≤ s'.σ.length ∧ s'.σ.length ≤ s.σ.length ∧ s'.σ = s.σ.take s'.σ.length ∧ s'.σ.all (okOb s'.σ.length) = true ∧
    ∀ t, s'.env t = .any ∨ (s'.env t = s.env t ∧ okV s'.σ.length 5 (s.env t) = true)

/-- The same in meaning: less is told, or told otherwise. -/
def SWk (m : Nat) (s s' : VS) : Prop :=
  ∀ (B : Base) (β : Bt) (w : World) (a : Act) (N : Nat), B.σ.length = m → WR B β s.σ w → ARel B β s.σ w N s.env s.df a → ∃ β', WR B β' s'.σ w ∧ ARel B β' s'.σ w N s'.env s'.df a

def Rnd (m : Nat) (I : VS → Prop) (μ : VS → Nat) (s0 : VS) (K : VX → VS → Prop) : VX → VS → Prop
  | .normal, s => ∃ s', SWk m s s' ∧ I s' ∧ μ s' < μ s0
  | x, s => K x s

/-- What a region that draws its order owes, by its number. -/
abbrev Dr := Nat → Array Oper → (VX → VS → Prop) → VS → Prop
abbrev Chk := Nat → Array Oper → Bool

def vwp (P : Program) (m : Nat) (D : Dr) : Code → (VX → VS → Prop) → VS → Prop
  | .skip, K, s => K .normal s
  | .label _, K, s => K .normal s
  | .seq a b, K, s => vwp P m D a (Then (vwp P m D b K) K) s
  | .region _ ops false, K, s => vops P m ops K ops.toList s
  | .region id ops true, K, s => D id ops K s
  | .cond c x y, K, s => ob (boolOf (veval s.env c)) (CondK (vwp P m D x K) (vwp P m D y K) s)
  | .block id c, K, s => vwp P m D c (Blk id K) s
  | .exit id, K, s => K (.exit id) s
  | .ret, K, s => K .ret s
  | .loop c, K, s => ∃ (I : VS → Prop) (μ : VS → Nat), (∃ s0, SWk m s s0 ∧ I s0) ∧ ∀ s', I s' → vwp P m D c (Rnd m I μ s' K) s'
  | _, _, _ => False

/-- All operations write where there is a place. -/
def dstOk (N : Nat) (chk : Chk) : Code → Bool
  | .region id ops draw => (!draw || chk id ops) && ops.toList.all fun o => match o.dst with
    | some d => decide (d < N)
    | none => true
  | .seq a b => dstOk N chk a && dstOk N chk b
  | .cond _ a b => dstOk N chk a && dstOk N chk b
  | .block _ a => dstOk N chk a
  | .loop a => dstOk N chk a
  | _ => true

section
variable {P : Program} {B : Base} {β β' : Bt} {σ σ' : St} {w w' : World} {Z : Nat → Prop} {N : Nat} {env : Env} {df : List DV} {a : Act}

theorem okV_rel {n : Nat} : ∀ (k : Nat) {x : PV} {v : Value} {Z' : Nat → Prop}, (∀ b, Z b → Z' b) → okV n k x = true → VRel β σ w Z x v → VRel β (σ.take n) w Z' x v
  | 0, x, v, Z', _, h, _ => by simp [okV] at h
  | k + 1, x, v, Z', hz', h, hv => by
    cases hv with
    | any v => exact .any v
    | d x v hd => exact .d _ _ (hd.mono (fun _ _ _ _ h => h) hz')
    | nil => exact .nil
    | nz a cap => exact .nz a cap
    | sl id g s m a l c o ho hg hp =>
      simp only [okV, decide_eq_true_eq] at h
      exact .sl _ _ _ _ _ _ _ o (by rw [List.getElem?_take, if_pos h]; exact ho) hg hp
    | ptr id g i off a o ho hg hp =>
      simp only [okV, decide_eq_true_eq] at h
      exact .ptr _ _ _ _ _ o (by rw [List.getElem?_take, if_pos h]; exact ho) hg hp
    | agg c vs hn hr =>
      simp only [okV, List.all_eq_true] at h
      exact .agg _ _ hn fun j x v hj hv => okV_rel k hz' (h x (List.mem_of_getElem? hj)) (hr j x v hj hv)
    | tup c vs hn hr =>
      simp only [okV, List.all_eq_true] at h
      exact .tup _ _ hn fun j x v hj hv => okV_rel k hz' (h x (List.mem_of_getElem? hj)) (hr j x v hj hv)
    | fn f a b va vb ha hb hra hrb =>
      simp only [okV, Bool.and_eq_true, List.all_eq_true] at h
      exact .fn _ _ _ _ _ ha hb (fun j x v hj hv => okV_rel k hz' (h.1 x (List.mem_of_getElem? hj)) (hra j x v hj hv)) (fun j x v hj hv => okV_rel k hz' (h.2 x (List.mem_of_getElem? hj)) (hrb j x v hj hv))

theorem take_get {n id : Nat} {o : Ob} (h : (σ.take n)[id]? = some o) : id < n ∧ σ[id]? = some o := by
  rw [List.getElem?_take] at h
  split at h
  · exact ⟨by assumption, h⟩
  · simp at h

theorem own_take {n b : Nat} (h : Own β (σ.take n) b) : Own β σ b := by
  obtain ⟨id, o, p, h1, h2⟩ := h
  exact ⟨id, o, p, (take_get h1).2, h2⟩

theorem WR.take (h : WR B β σ w) {n : Nat} (hn : B.σ.length ≤ n) (hok : (σ.take n).all (okOb n) = true) : WR B β (σ.take n) w := by
  have hz : ∀ b, Zc B β σ w b → Zc B β (σ.take n) w b := fun b hb => ⟨hb.1, fun ho => hb.2.1 (own_take ho), hb.2.2⟩
  refine ⟨⟨?_, ?_⟩, h.size, h.keep, fun b hb => h.own b (own_take hb), ?_, h.rest, ?_⟩
  · intro id o ho
    obtain ⟨h1, h2⟩ := take_get ho
    have hh := h.inv.holds id o h2
    cases o with
    | dead => trivial
    | arr lv g sz es =>
      obtain ⟨h3, h4⟩ := hh
      refine ⟨h3, ?_⟩
      cases hp : β id with
      | none => rw [hp] at h4; exact h4
      | some q =>
        rw [hp] at h4
        obtain ⟨h5, h6, h7, h8⟩ := h4
        refine ⟨h5, h6, h7, fun i j e x hi hj => ?_⟩
        obtain ⟨v, hv, h1', hd⟩ := h8 i j e x hi hj
        exact ⟨v, hv, h1', hd.mono (fun _ _ _ _ h => h) hz⟩
    | box lv g c =>
      obtain ⟨q, h3, h4, h5, h6, h7⟩ := hh
      refine ⟨q, h3, h4, h5, h6, fun j x hj => ?_⟩
      obtain ⟨v, hv, hr⟩ := h7 j x hj
      have hob := List.all_eq_true.1 hok _ (List.mem_of_getElem? ho)
      simp only [okOb, List.all_eq_true] at hob
      exact ⟨v, hv, okV_rel 4 hz (hob x (List.mem_of_getElem? hj)) hr⟩
  · intro id o id' o' p p' h1 h2
    exact h.inv.apart id o id' o' p p' (take_get h1).2 (take_get h2).2
  · intro id o ho
    obtain ⟨o', h1, h2⟩ := h.ext id o ho
    have := get_lt ho
    exact ⟨o', by rw [List.getElem?_take, if_pos (by omega)]; exact h1, h2⟩
  · intro id o' q' h1 h2 h3
    exact h.place id o' q' (take_get h1).2 h2 h3

theorem weak_rel {s s' : VS} (h : Weak B.σ.length s s') (hw : WR B β s.σ w) (ha : ARel B β s.σ w N s.env s.df a) : WR B β s'.σ w ∧ ARel B β s'.σ w N s'.env s'.df a := by
  obtain ⟨h1, h2, h3, h4, h5, h6, h7⟩ := h
  generalize hn : s'.σ.length = n at *
  have hz : ∀ b, Zc B β s.σ w b → Zc B β (s.σ.take n) w b := fun b hb => ⟨hb.1, fun ho => hb.2.1 (own_take ho), hb.2.2⟩
  rw [h5] at h6 ⊢
  refine ⟨hw.take h3 h6, ha.size, fun t => ?_, by rw [h1]; exact ha.dfl, fun j x d hj hd => ?_⟩
  · rcases h7 t with h8 | ⟨h8, h9⟩
    · rw [h8]; exact .any _
    · rw [h8]; exact okV_rel 5 hz h9 (ha.env t)
  · rw [h1] at hj
    obtain ⟨va, ca, e1, e2, r1, r2⟩ := ha.df j x d hj hd
    have hx := List.all_eq_true.1 h2 x (List.mem_of_getElem? hj)
    simp only [Bool.and_eq_true, List.all_eq_true] at hx
    exact ⟨va, ca, e1, e2, ⟨r1.1, fun j y v hy hv => okV_rel 4 hz (hx.1 y (List.mem_of_getElem? hy)) (r1.2 j y v hy hv)⟩,
      ⟨r2.1, fun j y v hy hv => okV_rel 4 hz (hx.2 y (List.mem_of_getElem? hy)) (r2.2 j y v hy hv)⟩⟩

theorem Weak.sw {m : Nat} {s s' : VS} (h : Weak m s s') : SWk m s s' := by
  intro B β w a N hm hw ha
  subst hm
  exact ⟨β, weak_rel h hw ha⟩
theorem SWk.refl {m : Nat} {s : VS} : SWk m s s := fun _ β _ _ _ _ hw ha => ⟨β, hw, ha⟩

theorem boolOf_rel {x : PV} {v : Value} {b : Bool} (h : boolOf x = some b) (hv : VRel β σ w Z x v) : v = .bool b := by
  unfold boolOf at h
  split at h
  · cases h; cases hv with
    | d _ _ hd => cases hd; rfl
  · simp at h

/-- What a region that draws owes. -/
def DrawOK (P : Program) (B : Base) (N : Nat) (chk : Chk) (D : Dr) : Prop :=
  ∀ (id : Nat) (ops : Array Oper) (K : VX → VS → Prop) (Q : Exit → Act → World → Prop) (s : VS) (a : Act) (w : World) (β : Bt),
    chk id ops = true → (∀ o ∈ ops.toList, ∀ d, o.dst = some d → d < N) → D id ops K s → Post B N K Q → WR B β s.σ w → ARel B β s.σ w N s.env s.df a → (Code.region id ops true).wp P Q a w

theorem vwp_sound {chk : Chk} {D : Dr} (hD : DrawOK P B N chk D) : ∀ (c : Code) (K : VX → VS → Prop) (Q : Exit → Act → World → Prop) (s : VS) (a : Act) (w : World) (β : Bt),
    dstOk N chk c = true → vwp P B.σ.length D c K s → Post B N K Q → WR B β s.σ w → ARel B β s.σ w N s.env s.df a → c.wp P Q a w := by
  intro c
  induction c with
  | skip => intro K Q s a w β _ h hQ hw ha; exact wp_skip (hQ _ _ _ a w β h hw ha trivial)
  | label l => intro K Q s a w β _ h hQ hw ha; exact wp_label (hQ _ _ _ a w β h hw ha trivial)
  | region id ops draw =>
    intro K Q s a w β hd h hQ hw ha
    have hd' : ∀ o ∈ ops.toList, ∀ d, o.dst = some d → d < N := by
      intro o ho d hdo
      simp only [dstOk, Bool.and_eq_true] at hd
      have := List.all_eq_true.1 hd.2 o ho
      rw [hdo] at this; simpa using this
    cases draw with
    | true =>
      have hc : chk id ops = true := by simp only [dstOk, Bool.and_eq_true] at hd; simpa using hd.1
      exact hD id ops K Q s a w β hc hd' h hQ hw ha
    | false =>
      refine wp_region ?_
      have := vops_sound hd' hQ ops.toList 0 s a w β rfl h hw ha
      rw [List.range_eq_range']
      simpa using this
  | seq x y ihx ihy =>
    intro K Q s a w β hd h hQ hw ha
    simp only [dstOk, Bool.and_eq_true] at hd
    refine wp_seq (ihx _ _ s a w β hd.1 h ?_ hw ha)
    intro xx s e a w β hk hw ha hx
    cases xx with
    | normal => cases e <;> first | exact hx.elim | exact ihy K Q s a w β hd.2 hk hQ hw ha
    | exit i => cases e <;> first | exact hx.elim | exact hQ (.exit i) s _ a w β hk hw ha hx
    | ret => cases e <;> first | exact hx.elim | exact hQ .ret s _ a w β hk hw ha hx
    | panic v => cases e <;> first | exact hx.elim | exact hQ (.panic v) s _ a w β hk hw ha hx
  | cond c x y ihx ihy =>
    intro K Q s a w β hd h hQ hw ha
    simp only [dstOk, Bool.and_eq_true] at hd
    simp only [vwp] at h
    cases hb : boolOf (veval s.env c) with
    | none => rw [hb] at h; exact h.elim
    | some b =>
      rw [hb] at h
      have hc := boolOf_rel hb (veval_rel ha.env c)
      simp only [ob, CondK] at h
      cases b with
      | true => exact wp_cond_true hc (ihx K Q s a w β hd.1 (by simpa using h) hQ hw ha)
      | false => exact wp_cond_false hc (ihy K Q s a w β hd.2 (by simpa using h) hQ hw ha)
  | block id c ih =>
    intro K Q s a w β hd h hQ hw ha
    refine wp_block (ih _ _ s a w β hd h ?_ hw ha)
    intro xx s e a w β hk hw ha hx
    cases xx with
    | normal => cases e <;> first | exact hx.elim | exact hQ .normal s _ a w β hk hw ha hx
    | exit i =>
      cases e with
      | exit j =>
        have : i = j := hx
        subst this
        simp only [Blk] at hk
        simp only [Exit.inBlock]
        by_cases hi : i = id
        · rw [if_pos hi] at hk ⊢; exact hQ .normal s _ a w β hk hw ha trivial
        · rw [if_neg hi] at hk ⊢; exact hQ (.exit i) s _ a w β hk hw ha rfl
      | _ => exact hx.elim
    | ret => cases e <;> first | exact hx.elim | exact hQ .ret s _ a w β hk hw ha hx
    | panic v => cases e <;> first | exact hx.elim | exact hQ (.panic v) s _ a w β hk hw ha hx
  | exit id => intro K Q s a w β _ h hQ hw ha; exact wp_exit (hQ _ _ _ a w β h hw ha rfl)
  | ret => intro K Q s a w β _ h hQ hw ha; exact wp_ret (hQ _ _ _ a w β h hw ha trivial)
  | loop c ih =>
    intro K Q s a w β hd h hQ hw ha
    simp only [vwp] at h
    obtain ⟨I, μ, ⟨s0, hsw, h0⟩, hr⟩ := h
    obtain ⟨β0, hw0, ha0⟩ := hsw B β w a N rfl hw ha
    have key : ∀ n s a w β, μ s = n → I s → WR B β s.σ w → ARel B β s.σ w N s.env s.df a →
        ∀ (b : Frame) (k : List Item) (cs : List Frame), ∃ e a' w', Q e a' w' ∧ Arrives P (lone (b.at a (.code c :: .inLoop c :: k)) cs w) b k cs e a' w' := by
      intro n
      induction n using Nat.strongRecOn with
      | _ n ihn =>
        intro s a w β hn hI hw ha b k cs
        have hbody := ih (Rnd B.σ.length I μ s K) (Exit.then (fun a' w' => ∃ s' β', I s' ∧ μ s' < n ∧ WR B β' s'.σ w' ∧ ARel B β' s'.σ w' N s'.env s'.df a') Q) s a w β hd (hr s hI) (by
          intro xx s1 e a1 w1 β1 hk hw1 ha1 hx
          cases xx with
          | normal =>
            cases e <;> first | exact hx.elim | skip
            obtain ⟨s', hwk, hI', hμ⟩ := hk
            obtain ⟨β2, h1, h2⟩ := hwk B β1 w1 a1 N rfl hw1 ha1
            exact ⟨s', β2, hI', by omega, h1, h2⟩
          | exit i => cases e <;> first | exact hx.elim | exact hQ (.exit i) s1 _ a1 w1 β1 hk hw1 ha1 hx
          | ret => cases e <;> first | exact hx.elim | exact hQ .ret s1 _ a1 w1 β1 hk hw1 ha1 hx
          | panic v => cases e <;> first | exact hx.elim | exact hQ (.panic v) s1 _ a1 w1 β1 hk hw1 ha1 hx) hw ha
        obtain ⟨e, a₁, w₁, hq, harr⟩ := hbody b (.inLoop c :: k) cs
        cases e with
        | normal =>
          obtain ⟨s', β', hI', hμ, hw', ha'⟩ := hq
          obtain ⟨e₂, a₂, w₂, hq₂, harr₂⟩ := ihn (μ s') hμ s' a₁ w₁ β' rfl hI' hw' ha' b k cs
          exact ⟨e₂, a₂, w₂, hq₂, .of_steps (Steps.trans harr (.one step_inLoop)) harr₂⟩
        | exit id => exact ⟨_, a₁, w₁, hq, .pass (x := .inLoop c) rfl (fun _ _ => .inl (by simp)) harr⟩
        | goto l => exact ⟨_, a₁, w₁, hq, .pass (x := .inLoop c) rfl (fun _ _ => .inl (by simp)) harr⟩
        | ret => exact ⟨_, a₁, w₁, hq, .pass (x := .inLoop c) rfl (fun _ _ => .inl (by simp)) harr⟩
        | panic ch => exact ⟨_, a₁, w₁, hq, .pass (x := .inLoop c) rfl (fun _ _ => .inl (by simp)) harr⟩
        | outgrown => exact ⟨_, a₁, w₁, hq, .pass (x := .inLoop c) rfl (fun _ _ => .inl (by simp)) harr⟩
    intro b k cs
    obtain ⟨e, a', w', hq, harr⟩ := key _ s0 a w β0 rfl h0 hw0 ha0 b k cs
    exact ⟨e, a', w', hq, .of_steps (.one step_loop) harr⟩
  | _ => intro K Q s a w β _ h; exact h.elim
end
end Go.VL
namespace Go.VL
open Go

/-- The results, as the function's end reads them. -/
def vres (P : Program) (env : Env) (σ : St) : List ResultVar → Option (List PV)
  | [] => some []
  | .tmp t :: l => (vres P env σ l).map fun r => env t :: r
  | .cell a t :: l => match vload P σ t (env a) with
    | some x => (vres P env σ l).map fun r => x :: r
    | none => none

def retVal : List Value → Value
  | [v] => v
  | l => .tuple l.toArray

/-- How a frame leaves: returning, or with one panic on the way. -/
def ModeRel (B : Base) (β : Bt) (σ : St) (w : World) : Option D → FrameMode → Prop
  | none, .returning => True
  | some x, .panicking ch => ∃ v, ch = [{ v := v, recovered := false }] ∧ DRel w (Zc B β σ w) x v
  | _, _ => False

/-- A deferred call. -/
def PDefs (P : Program) (m : Nat) (x : DV) (σ : St) (md : Option D) (R : Option D → St → Prop) : Prop :=
  ∀ (B : Base) (β : Bt) (w : World) (va ca : List Value) (u : FrameMode), B.σ.length = m → WR B β σ w → VRelL β σ w (Zc B β σ w) x.args va → VRelL β σ w (Zc B β σ w) x.captured ca → ModeRel B β σ w md u →
    (invoke (.fn (.func x.f) ca.toArray) va.toArray).run P w = .ok (.enter x.f (va ++ ca).toArray) w ∧ CallsD P x.f (va ++ ca).toArray u w fun e u' w' => match e with
      | .returned _ => ∃ md' σ' β', R md' σ' ∧ Mv B β σ w β' σ' w' ∧ ModeRel B β' σ' w' md' (settle u')
      | .panicked ch => ∃ md' σ' β', R md' σ' ∧ Mv B β σ w β' σ' w' ∧ ModeRel B β' σ' w' md' (raised u' ch)
      | .outgrown => False

/-- The end of a body. -/
def ResK (R : List PV → St → Prop) (σ : St) (rs : List PV) : Prop := R rs σ
def vleaves (P : Program) (m : Nat) (res : List ResultVar) (env : Env) (R : List PV → St → Prop) (RP : D → St → Prop) : List DV → Option D → St → Prop
  | [], none, σ => ob (vres P env σ res) (ResK R σ)
  | [], some x, σ => RP x σ
  | d :: ds, md, σ => PDefs P m d σ md (vleaves P m res env R RP ds)
def BodyK (P : Program) (m : Nat) (res : List ResultVar) (R : List PV → St → Prop) (RP : D → St → Prop) : VX → VS → Prop
  | .normal, s => vleaves P m res s.env R RP s.df none s.σ
  | .ret, s => vleaves P m res s.env R RP s.df none s.σ
  | .panic x, s => vleaves P m res s.env R RP s.df (some x) s.σ
  | .exit _, _ => False

def env0 (args : List PV) : Env := fun t => args.getD t .any

def resOne (tmps : Array Value) : ResultVar → Sem Value
  | .tmp t => pure (tmps.getD t undef)
  | .cell a t => do loadVar t (← asAddr (tmps.getD a undef))

section
variable {P : Program} {B : Base} {β β' : Bt} {σ σ' : St} {w w' : World} {Z : Nat → Prop} {N : Nat} {env : Env} {df : List DV} {a : Act}

theorem vload_ptr (h : WR B β σ w) {t : TypeId} {p x : PV} {v : Value} (hp : VRel β σ w (Zc B β σ w) p v) (hx : vload P σ t p = some x) :
    ∃ ad u, v = .pointer (some ad) ∧ (loadVar t ad).run P w = .ok u w ∧ VRel β σ w (Zc B β σ w) x u := by
  obtain ⟨u, h1, h2⟩ := vload_run (P := P) h hp hx
  unfold Instr.loadAt Instr.sureAddr at h1
  split at h1
  · rename_i ad
    exact ⟨ad, u, rfl, by simpa using h1, h2⟩
  · simp at h1

theorem vres_run (h : WR B β σ w) {tmps : Array Value} (henv : ∀ t, VRel β σ w (Zc B β σ w) (env t) (tmps.getD t undef)) : ∀ (res : List ResultVar) (rs : List PV), vres P env σ res = some rs →
    ∃ vs, (res.mapM (resOne tmps)).run P w = .ok vs w ∧ VRelL β σ w (Zc B β σ w) rs vs
  | [], rs, hr => by simp [vres] at hr; subst hr; exact ⟨[], rfl, rfl, by simp⟩
  | .tmp t :: l, rs, hr => by
    simp only [vres] at hr
    cases hl : vres P env σ l with
    | none => simp [hl] at hr
    | some r =>
      simp [hl] at hr; subst hr
      obtain ⟨vs, h1, h2⟩ := vres_run h henv l r hl
      refine ⟨tmps.getD t undef :: vs, ?_, by simp [h2.1], fun j x v hx hv => ?_⟩
      · have h0 : (resOne tmps (.tmp t)).run P w = .ok (tmps.getD t undef) w := rfl
        rw [List.mapM_cons]; simp only [Sem.run_bind, Sem.run_pure, Result.andThen_ok, h0, h1]
      · cases j with
        | zero => simp at hx hv; subst hx; rw [← hv]; have := henv t; simpa using this
        | succ j => simp at hx hv; exact h2.2 j x v hx hv
  | .cell a t :: l, rs, hr => by
    simp only [vres] at hr
    split at hr
    · rename_i x hx
      cases hl : vres P env σ l with
      | none => simp [hl] at hr
      | some r =>
        simp [hl] at hr; subst hr
        obtain ⟨vs, h1, h2⟩ := vres_run h henv l r hl
        obtain ⟨ad, u, he, h3, h4⟩ := vload_ptr (P := P) h (henv a) hx
        refine ⟨u :: vs, ?_, by simp [h2.1], fun j x v hx hv => ?_⟩
        · have h0 : (resOne tmps (.cell a t)).run P w = .ok u w := by simp only [resOne, he, asAddr]; simp [h3]
          rw [List.mapM_cons]; simp only [Sem.run_bind, Sem.run_pure, Result.andThen_ok, h0, h1]
        · cases j with
          | zero => simp at hx hv; subst hx; subst hv; exact h4
          | succ j => simp at hx hv; exact h2.2 j x v hx hv
    · simp at hr

theorem results_run (h : WR B β σ w) {fn : Func} {tmps : Array Value} (henv : ∀ t, VRel β σ w (Zc B β σ w) (env t) (tmps.getD t undef)) {rs : List PV} (hr : vres P env σ fn.results.toList = some rs) :
    ∃ vs, (results fn tmps).run P w = .ok (retVal vs) w ∧ VRelL β σ w (Zc B β σ w) rs vs := by
  obtain ⟨vs, h1, h2⟩ := vres_run (P := P) h henv fn.results.toList rs hr
  refine ⟨vs, ?_, h2⟩
  have e : results fn tmps = (do let vs ← fn.results.mapM (resOne tmps); pure (if h : vs.size = 1 then vs[0] else .tuple vs)) := rfl
  rw [e, Array.mapM_eq_mapM_toList]
  simp only [Sem.run_bind, Sem.run_map, h1, Result.andThen_ok]
  cases vs with
  | nil => rfl
  | cons v vs => cases vs <;> rfl

theorem retV_rel {rs : List PV} {vs : List Value} (h : VRelL β σ w Z rs vs) : VRel β σ w Z (retV rs) (retVal vs) := by
  match rs, vs, h with
  | [], [], h => exact .tup [] [] rfl h.2
  | [x], [v], h => exact h.2 0 x v rfl rfl
  | x :: y :: l, v :: u :: l', h => exact .tup _ _ h.1 h.2
  | [], _ :: _, h => exact absurd h.1 (by simp)
  | [_], [], h => exact absurd h.1 (by simp)
  | [_], _ :: _ :: _, h => exact absurd h.1 (by simp)
  | _ :: _ :: _, [], h => exact absurd h.1 (by simp)
  | _ :: _ :: _, [_], h => exact absurd h.1 (by simp)

/-- What a function's end owes its caller. -/
def EndsOK (B : Base) (R : List PV → St → Prop) (RP : D → St → Prop) (E : Ending → World → Prop) : Prop :=
  (∀ rs σ w β vs, R rs σ → WR B β σ w → VRelL β σ w (Zc B β σ w) rs vs → E (.returned (retVal vs)) w) ∧
  (∀ x σ w β v, RP x σ → WR B β σ w → DRel w (Zc B β σ w) x v → E (.panicked [{ v := v, recovered := false }]) w)

theorem leaves_sound {fn : Func} {R : List PV → St → Prop} {RP : D → St → Prop} {E : Ending → World → Prop} (hE : EndsOK B R RP E) {tmps : Array Value} :
    ∀ (ds : List DV) (defers : List Deferred) (md : Option D) (u : FrameMode) (σ : St) (w : World) (β : Bt), ds.length = defers.length →
    (∀ (j : Nat) (x : DV) (d : Deferred), ds[j]? = some x → defers[j]? = some d → DVRel β σ w (Zc B β σ w) x d) → (∀ t, VRel β σ w (Zc B β σ w) (env t) (tmps.getD t undef)) →
    WR B β σ w → ModeRel B β σ w md u → vleaves P B.σ.length fn.results.toList env R RP ds md σ → Leaves P fn tmps E defers u w
  | [], defers, md, u, σ, w, β, hl, hd, henv, hw, hm, h => by
    have : defers = [] := List.eq_nil_of_length_eq_zero hl.symm
    subst this
    cases md with
    | none =>
      cases u with
      | returning =>
        simp only [vleaves] at h
        cases hr : vres P env σ fn.results.toList with
        | none => rw [hr] at h; exact h.elim
        | some rs =>
          rw [hr] at h
          obtain ⟨vs, h1, h2⟩ := results_run (P := P) hw henv hr
          exact ⟨_, h1, hE.1 rs σ w β vs h hw h2⟩
      | _ => exact hm.elim
    | some x =>
      cases u with
      | panicking ch =>
        obtain ⟨v, rfl, hv⟩ := hm
        exact hE.2 x σ w β v h hw hv
      | _ => exact hm.elim
  | x :: ds, defers, md, u, σ, w, β, hl, hd, henv, hw, hm, h => by
    cases defers with
    | nil => simp at hl
    | cons d defers =>
      obtain ⟨va, ca, e1, e2, r1, r2⟩ := hd 0 x d rfl rfl
      obtain ⟨h1, h2⟩ := h B β w va ca u rfl hw r2 r1 hm
      obtain ⟨target, dargs⟩ := d
      simp only at e1 e2; subst e1; subst e2
      refine ⟨?_, .func x.f, ca.toArray, x.f, (va ++ ca).toArray, rfl, h1, ?_⟩
      · intro e; subst e; cases md <;> exact hm.elim
      · have back : ∀ (md' : Option D) (u' : FrameMode) (σ' : St) (β' : Bt) (w' : World), vleaves P B.σ.length fn.results.toList env R RP ds md' σ' → Mv B β σ w β' σ' w' → ModeRel B β' σ' w' md' u' → Leaves P fn tmps E defers u' w' := by
          intro md' u' σ' β' w' hk hmv hmd
          refine leaves_sound hE ds defers md' u' σ' w' β' (by simpa using hl) (fun j y d hj hdj => ?_) (fun t => hmv.vrel (henv t)) hmv.wr hmd hk
          obtain ⟨va, ca, e1, e2, r1, r2⟩ := hd (j + 1) y d (by simpa using hj) (by simpa using hdj)
          exact ⟨va, ca, e1, e2, VRelL.mono' hmv r1, VRelL.mono' hmv r2⟩
        intro c cs hc
        obtain ⟨e, u', w', fr, hR, rest⟩ := h2 c cs hc
        refine ⟨e, u', w', fr, ?_, rest⟩
        cases e with
        | returned v => obtain ⟨md', σ', β', hk, hmv, hmd⟩ := hR; exact back md' _ σ' β' w' hk hmv hmd
        | panicked ch => obtain ⟨md', σ', β', hk, hmv, hmd⟩ := hR; exact back md' _ σ' β' w' hk hmv hmd
        | outgrown => exact hR.elim

/-- The activation begins. -/
theorem start_rel (hw : WR B β σ w) {args : List PV} {vals : List Value} (hv : VRelL β σ w (Zc B β σ w) args vals) (hN : args.length ≤ N) :
    ARel B β σ w N (env0 args) [] { tmps := vals.toArray ++ Array.replicate (N - vals.toArray.size) undef, defers := [] } := by
  have hl := hv.1
  refine ⟨by simp; omega, fun t => ?_, rfl, by simp⟩
  rcases Nat.lt_or_ge t args.length with h1 | h1
  · have h2 : t < vals.length := by omega
    have e1 : env0 args t = args[t] := by simp [env0, List.getD, List.getElem?_eq_getElem h1]
    have e2 : (vals.toArray ++ Array.replicate (N - vals.toArray.size) undef).getD t undef = vals[t] := by
      rw [Array.getD_eq_getD_getElem?, Array.getElem?_append_left (by simpa using h2)]; simp [h2]
    rw [e1, e2]; exact hv.2 t _ _ (List.getElem?_eq_getElem h1) (List.getElem?_eq_getElem h2)
  · have e1 : env0 args t = .any := by simp [env0, List.getD, List.getElem?_eq_none h1]
    rw [e1]; exact .any _

theorem body_sound {chk : Chk} {D : Dr} (hD : DrawOK P B N chk D) {g : FuncId} {fn : Func} {c : Code} (hf : P.funcs[g]? = some fn) (hb : fn.body = some c) (hN : fn.ntmps = N) (hok : dstOk N chk c = true)
    {args : List PV} {vals : List Value} (hw : WR B β σ w) (hv : VRelL β σ w (Zc B β σ w) args vals) (hl : args.length ≤ N) {R : List PV → St → Prop} {RP : VL.D → St → Prop} {E : Ending → World → Prop} (hE : EndsOK B R RP E)
    (h : vwp P B.σ.length D c (BodyK P B.σ.length fn.results.toList R RP) ⟨env0 args, [], σ⟩) : Calls P g vals.toArray w E := by
  refine calls_of_wp_defers hf hb ?_
  rw [hN]
  refine vwp_sound hD c _ _ _ _ w β hok h ?_ hw (start_rel hw hv hl)
  intro x s e a w β hk hw ha hx
  cases x with
  | normal => cases e <;> first | exact hx.elim | exact leaves_sound hE s.df a.defers none .returning s.σ w β ha.dfl ha.df ha.env hw trivial hk
  | ret => cases e <;> first | exact hx.elim | exact leaves_sound hE s.df a.defers none .returning s.σ w β ha.dfl ha.df ha.env hw trivial hk
  | exit i => exact hk.elim
  | panic x =>
    cases e with
    | panic ch => exact leaves_sound hE s.df a.defers (some x) (.panicking ch) s.σ w β ha.dfl ha.df ha.env hw hx hk
    | _ => exact hx.elim
end
end Go.VL
namespace Go.VL
open Go

/-- A Go function with a body, at its number. -/
structure FnOK (P : Program) (g : FuncId) (fn : Func) (c : Code) (N : Nat) (chk : Chk) (res : List ResultVar) : Prop where
  at_ : P.funcs[g]? = some fn
  body : fn.body = some c
  name : (fn.name == "runtime.NumGoroutine") = false
  tmps : fn.ntmps = N
  res : fn.results.toList = res
  dst : dstOk N chk c = true

/-- The end of a body in a store: garbage is dropped. -/
def FinR (m : Nat) (R : VO → St → Prop) (rs : List PV) (σ : St) : Prop :=
  ∃ n, m ≤ n ∧ (σ.take n).all (okOb n) = true ∧ okV n 5 (retV rs) = true ∧ R (.ret (retV rs)) (σ.take n)
def FinP (m : Nat) (R : VO → St → Prop) (x : D) (σ : St) : Prop :=
  ∃ n, m ≤ n ∧ (σ.take n).all (okOb n) = true ∧ R (.pan x) (σ.take n)

/-- The rows among the results. -/
def fsIds : List PV → List R1 → List Nat
  | .sl id _ _ _ :: rs, .fs _ _ :: l => id :: fsIds rs l
  | _ :: rs, _ :: l => fsIds rs l
  | _, _ => []
/-- The data among the results. -/
def dOf : List PV → List R1 → List PV
  | x :: rs, .d _ :: l => x :: dOf rs l
  | _ :: rs, .fs _ _ :: l => dOf rs l
  | _, _ => []
def OutR (σ : St) : List PV → List R1 → Prop
  | [], [] => True
  | x :: rs, .d y :: l => toD σ 5 x = some y ∧ OutR σ rs l
  | .nil :: rs, .fs _ es :: l => es = [] ∧ OutR σ rs l
  | .sl id g s n :: rs, .fs sz es :: l => (∃ es', σ[id]? = some (.arr true g sz es') ∧ s + n ≤ es'.length ∧ es = (es'.drop s).take n) ∧ OutR σ rs l
  | _, _ => False
/-- The results are what is told of them; the rows are not told twice. -/
def FinF (o : Out) (rs : List PV) (σ : St) : Prop :=
  match o with
  | .ret l => OutR σ rs l ∧ (fsIds rs l).Nodup ∧ (fsIds rs l).all (fun id => decide (id ∉ idsL σ (dOf rs l))) = true
  | .pan _ => False
def FinFP (o : Out) (x : D) (σ : St) : Prop :=
  match o with
  | .ret _ => False
  | .pan y => x = y ∧ σ.all (fun _ => true) = true

section
variable {P : Program} {B : Base} {β β' : Bt} {σ σ' : St} {w w' : World} {Z : Nat → Prop} {N : Nat} {env : Env} {df : List DV} {a : Act}

theorem run_enter {chk : Chk} {g : FuncId} {fn : Func} {c : Code} {N : Nat} {res : List ResultVar} (h : FnOK P g fn c N chk res) (vs : Array Value) : (callFunc g vs).run P w = .ok (.enter g vs) w := by
  have hn : ¬ fn.name = "runtime.NumGoroutine" := by simpa using h.name
  simp [callFunc, h.at_, hn, h.body]

/-- A callee's world, told by the caller. -/
theorem rebase (h : WR B β σ w) (hc : WR ⟨β, σ, w, Zc B β σ w⟩ β' σ' w') : Mv B β σ w β' σ' w' ∧ ∀ b, Zc ⟨β, σ, w, Zc B β σ w⟩ β' σ' w' b → Zc B β' σ' w' b := by
  have hz : ∀ b, Zc ⟨β, σ, w, Zc B β σ w⟩ β' σ' w' b → Zc B β' σ' w' b := by
    rintro b ⟨h1, h2, h3⟩
    have := h.size
    refine ⟨?_, h2, h3⟩
    rcases h1 with h1 | h1
    · exact h1.1
    · exact .inr (Nat.le_trans this h1)
  refine ⟨Mv.mk' h hc.size hc.keep hc.own hc.ext hc.rest hc.place ⟨fun id o ho => ?_, hc.inv.apart⟩, hz⟩
  exact (hc.inv.holds id o ho).mono (Ext.refl _ _) (fun _ _ _ _ h => h) hz (fun _ _ _ => rfl)

theorem base_self (h : WR B β σ w) : WR ⟨β, σ, w, Zc B β σ w⟩ β σ w := by
  have hz : ∀ b, Zc B β σ w b → Zc ⟨β, σ, w, Zc B β σ w⟩ β σ w b := fun b hb => ⟨.inl hb, hb.2.1, hb.2.2⟩
  exact ⟨⟨fun id o ho => (h.inv.holds id o ho).mono (Ext.refl _ _) (fun _ _ _ _ h => h) hz (fun _ _ _ => rfl), h.inv.apart⟩, Nat.le_refl _, fun _ _ _ => rfl, fun _ h => .inl h, Ext.refl _ _, ⟨rfl, rfl, rfl⟩, Plc.refl _ _ _⟩

/-- A contract in a store, out of the body. -/
theorem PCalls.intro {chk : Chk} {g : FuncId} {fn : Func} {c : Code} {res : List ResultVar} {D : Dr} (hD : ∀ B : Base, B.σ.length = σ.length → DrawOK P B N chk D) (hfn : FnOK P g fn c N chk res) {args : List PV} (hl : args.length ≤ N) {R : VO → St → Prop}
    (h : vwp P σ.length D c (BodyK P σ.length res (FinR σ.length R) (FinP σ.length R)) ⟨env0 args, [], σ⟩) {m : Nat} : PCalls P m g args σ R := by
  intro B β w vals hmB hw hv
  refine .inl ⟨run_enter hfn _, ?_⟩
  have hb := base_self hw
  have hv' : VRelL β σ w (Zc ⟨β, σ, w, Zc B β σ w⟩ β σ w) args vals :=
    ⟨hv.1, fun j x v hx hu => (hv.2 j x v hx hu).mono (Ext.refl _ _) (fun _ _ _ _ h => h) (fun b hb => ⟨.inl hb, hb.2.1, hb.2.2⟩)⟩
  refine body_sound (hD ⟨β, σ, w, Zc B β σ w⟩ rfl) hfn.at_ hfn.body hfn.tmps hfn.dst hb hv' hl ?_ (by rw [hfn.res]; exact h)
  refine ⟨fun rs σ1 w1 β1 vs hR hw1 hrs => ?_, fun x σ1 w1 β1 v hR hw1 hd => ?_⟩
  · obtain ⟨n, hn, hok, hval, hk⟩ := hR
    have hw2 := hw1.take hn hok
    obtain ⟨hmv, hz⟩ := rebase hw hw2
    refine ⟨_, _, β1, hk, hmv, ?_⟩
    exact okV_rel 5 (fun b hb => hz b ⟨hb.1, fun ho => hb.2.1 (own_take ho), hb.2.2⟩) hval (retV_rel hrs)
  · obtain ⟨n, hn, hok, hk⟩ := hR
    have hw2 := hw1.take hn hok
    obtain ⟨hmv, hz⟩ := rebase hw hw2
    refine ⟨_, _, β1, hk, hmv, v, rfl, hd.mono (fun _ _ _ _ h => h) (fun b hb => hz b ⟨hb.1, fun ho => hb.2.1 (own_take ho), hb.2.2⟩)⟩

/-- Where the result rows come from. -/
def srcT : List PV → List R1 → List (Option (Nat × Nat))
  | .sl id _ s _ :: rs, .fs _ _ :: l => some (id, s) :: srcT rs l
  | _ :: rs, .fs _ _ :: l => none :: srcT rs l
  | _ :: rs, .d _ :: l => srcT rs l
  | _, _ => []
def Src (σ : St) (o : Ob) : Option (Nat × Nat) → Prop
  | none => ∃ sz, o = .arr true 0 sz []
  | some (id, s) => ∃ sz es g es', o = .arr true 0 sz es ∧ σ[id]? = some (.arr true g sz es') ∧ s + es.length ≤ es'.length ∧ es = (es'.drop s).take es.length
def btOf (β : Bt) (T : List (Option (Nat × Nat))) : Bt := fun k =>
  match T[k]? with
  | some (some (id, s)) => (β id).map fun p => { p with base := p.base + s * p.sz }
  | _ => none

theorem src_of : ∀ (rs : List PV) (l : List R1) (k0 : Nat), OutR σ rs l → (thaw k0 l).2.length = (srcT rs l).length ∧ ∀ (k : Nat) (o : Ob) (t : Option (Nat × Nat)), (thaw k0 l).2[k]? = some o → (srcT rs l)[k]? = some t → Src σ o t
  | [], [], k0, _ => ⟨rfl, by simp [thaw]⟩
  | [], _ :: _, k0, h => by simp [OutR] at h
  | x :: rs, [], k0, h => by cases x <;> simp [OutR] at h
  | x :: rs, .d y :: l, k0, h => by
    have h2 : OutR σ rs l := by cases x <;> exact h.2
    have e : srcT (x :: rs) (.d y :: l) = srcT rs l := by cases x <;> rfl
    rw [e]; exact src_of rs l k0 h2
  | .nil :: rs, .fs sz es :: l, k0, h => by
    obtain ⟨rfl, h2⟩ := h
    obtain ⟨h3, h4⟩ := src_of rs l (k0 + 1) h2
    refine ⟨by simp [thaw, srcT, h3], fun k o t ho ht => ?_⟩
    cases k with
    | zero => simp [thaw, srcT] at ho ht; subst ho; subst ht; exact ⟨sz, rfl⟩
    | succ k => simp [thaw, srcT] at ho ht; exact h4 k o t ho ht
  | .sl id g s n :: rs, .fs sz es :: l, k0, h => by
    obtain ⟨⟨es', h1, h1', h1''⟩, h2⟩ := h
    obtain ⟨h3, h4⟩ := src_of rs l (k0 + 1) h2
    refine ⟨by simp [thaw, srcT, h3], fun k o t ho ht => ?_⟩
    cases k with
    | zero =>
      simp [thaw, srcT] at ho ht; subst ho; subst ht
      have hl : es.length = n := by rw [h1'']; simp; omega
      exact ⟨sz, es, g, es', rfl, h1, by omega, by rw [hl]; exact h1''⟩
    | succ k => simp [thaw, srcT] at ho ht; exact h4 k o t ho ht
  | .any :: _, .fs _ _ :: _, _, h => by simp [OutR] at h
  | .d _ :: _, .fs _ _ :: _, _, h => by simp [OutR] at h
  | .ptr _ _ _ _ :: _, .fs _ _ :: _, _, h => by simp [OutR] at h
  | .agg _ :: _, .fs _ _ :: _, _, h => by simp [OutR] at h
  | .tup _ :: _, .fs _ _ :: _, _, h => by simp [OutR] at h
  | .fn _ _ _ :: _, .fs _ _ :: _, _, h => by simp [OutR] at h

theorem fsIds_src : ∀ (rs : List PV) (l : List R1), (srcT rs l).filterMap (·.map (·.1)) = fsIds rs l
  | [], l => by cases l <;> simp [srcT, fsIds]
  | x :: rs, [] => by cases x <;> simp [srcT, fsIds]
  | x :: rs, .d y :: l => by
    have e : srcT (x :: rs) (.d y :: l) = srcT rs l := by cases x <;> rfl
    have e2 : fsIds (x :: rs) (.d y :: l) = fsIds rs l := by cases x <;> rfl
    rw [e, e2]; exact fsIds_src rs l
  | x :: rs, .fs sz es :: l => by
    have ih := fsIds_src rs l
    cases x <;> simp [srcT, fsIds, ih]

theorem src_inj : ∀ (T : List (Option (Nat × Nat))), (T.filterMap (·.map (·.1))).Nodup → ∀ (k k' : Nat) (id s s' : Nat), T[k]? = some (some (id, s)) → T[k']? = some (some (id, s')) → k = k'
  | [], _, k, k', id, s, s', h, _ => by simp at h
  | t :: T, hn, k, k', id, s, s', h, h' => by
    have hmem : ∀ (j : Nat) (id s : Nat), T[j]? = some (some (id, s)) → id ∈ T.filterMap (·.map (·.1)) := by
      intro j id s hj
      exact List.mem_filterMap.2 ⟨some (id, s), List.mem_of_getElem? hj, rfl⟩
    cases t with
    | none =>
      simp only [List.filterMap_cons, Option.map_none] at hn
      cases k with
      | zero => simp at h
      | succ k => cases k' with
        | zero => simp at h'
        | succ k' => simp at h h'; rw [src_inj T hn k k' id s s' h h']
    | some p =>
      simp only [List.filterMap_cons, Option.map_some, List.nodup_cons] at hn
      cases k with
      | zero =>
        simp at h; subst h
        cases k' with
        | zero => rfl
        | succ k' => simp at h'; exact absurd (hmem k' _ _ h') hn.1
      | succ k =>
        simp at h
        cases k' with
        | zero => simp at h'; subst h'; exact absurd (hmem k _ _ h) hn.1
        | succ k' => simp at h'; rw [src_inj T hn.2 k k' id s s' h h']

theorem thaw_vals {Z' : Nat → Prop} {T : List (Option (Nat × Nat))} {τ : St} : ∀ (rs : List PV) (l : List R1) (vs : List Value) (k0 : Nat), OutR σ rs l → VRelL β σ w Z rs vs → (∀ k, T[k0 + k]? = (srcT rs l)[k]?) → (∀ k, τ[k0 + k]? = (thaw k0 l).2[k]?) →
    (∀ x y v, x ∈ dOf rs l → toD σ 5 x = some y → VRel β σ w Z x v → DRel w Z' y v) → VRelL (btOf β T) τ w Z' (thaw k0 l).1 vs
  | [], [], vs, k0, _, hv, _, _, _ => by
    have : vs = [] := List.eq_nil_of_length_eq_zero hv.1.symm
    subst this; exact ⟨rfl, by simp [thaw]⟩
  | [], _ :: _, vs, k0, h, _, _, _, _ => by simp [OutR] at h
  | x :: rs, [], vs, k0, h, _, _, _, _ => by cases x <;> simp [OutR] at h
  | x :: rs, r :: l, [], k0, _, hv, _, _, _ => absurd hv.1 (by simp)
  | x :: rs, .d y :: l, v :: vs, k0, h, hv, hT, hτ, hd => by
    have h1 : toD σ 5 x = some y ∧ OutR σ rs l := by cases x <;> exact h
    have e : srcT (x :: rs) (.d y :: l) = srcT rs l := by cases x <;> rfl
    have e2 : dOf (x :: rs) (.d y :: l) = x :: dOf rs l := by cases x <;> rfl
    rw [e] at hT; rw [e2] at hd
    have ih := thaw_vals rs l vs k0 h1.2 ⟨by have := hv.1; simpa using this, fun j x v hx hu => hv.2 (j + 1) x v (by simpa using hx) (by simpa using hu)⟩ hT hτ (fun x y v hm => hd x y v (List.mem_cons_of_mem _ hm))
    refine ⟨by simp [thaw, ih.1], fun j z u hz hu => ?_⟩
    cases j with
    | zero => simp [thaw] at hz hu; subst hz; subst hu; exact .d _ _ (hd x y v (by simp) h1.1 (hv.2 0 x v rfl rfl))
    | succ j => simp [thaw] at hz hu; exact ih.2 j z u hz hu
  | x :: rs, .fs sz es :: l, v :: vs, k0, h, hv, hT, hτ, hd => by
    have h2 : OutR σ rs l := by cases x <;> simp only [OutR] at h <;> first | exact h.2 | exact h.elim
    have e2 : dOf (x :: rs) (.fs sz es :: l) = dOf rs l := by cases x <;> rfl
    rw [e2] at hd
    have hT' : ∀ k, T[k0 + 1 + k]? = (srcT rs l)[k]? := by
      intro k
      have := hT (k + 1)
      rw [show k0 + (k + 1) = k0 + 1 + k from by omega] at this
      rw [this]; cases x <;> rfl
    have hτ' : ∀ k, τ[k0 + 1 + k]? = (thaw (k0 + 1) l).2[k]? := by
      intro k
      have := hτ (k + 1)
      rw [show k0 + (k + 1) = k0 + 1 + k from by omega] at this
      rw [this]; rfl
    have ih := thaw_vals rs l vs (k0 + 1) h2 ⟨by have := hv.1; simpa using this, fun j x v hx hu => hv.2 (j + 1) x v (by simpa using hx) (by simpa using hu)⟩ hT' hτ' hd
    have hτ0 : τ[k0]? = some (.arr true 0 sz es) := by have := hτ 0; simpa [thaw] using this
    have hT0 := hT 0
    rw [Nat.add_zero] at hT0
    refine ⟨by simp [thaw, ih.1], fun j z u hz hu => ?_⟩
    cases j with
    | succ j => simp [thaw] at hz hu; exact ih.2 j z u hz hu
    | zero =>
      simp [thaw] at hz hu; subst hz; subst hu
      have hv0 := hv.2 0 x v rfl rfl
      cases x with
      | nil =>
        simp only [OutR] at h
        obtain ⟨rfl, _⟩ := h
        cases hv0
        refine .sl _ _ _ _ _ _ _ _ hτ0 (Nat.le_refl _) (fun _ _ => ?_)
        have : btOf β T k0 = none := by simp [btOf, hT0, srcT]
        rw [this]; exact ⟨rfl, rfl, rfl⟩
      | sl id g s n =>
        simp only [OutR] at h
        obtain ⟨⟨es', h3, h4, h5⟩, _⟩ := h
        have hl : es.length = n := by rw [h5]; simp; omega
        have hb : btOf β T k0 = (β id).map fun p => { p with base := p.base + s * p.sz } := by simp [btOf, hT0, srcT]
        cases hv0 with
        | sl _ _ _ _ a m c o ho hg hp =>
          rw [h3] at ho; cases ho
          have hpl := hp rfl rfl
          refine .sl _ _ _ _ _ _ _ _ hτ0 (Nat.le_refl _) (fun _ _ => ?_)
          rw [hb]
          cases hq : β id with
          | none =>
            rw [hq] at hpl; obtain ⟨h6, h7, h8⟩ := hpl
            cases h8; subst h7
            exact ⟨rfl, hl, rfl⟩
          | some q =>
            rw [hq] at hpl; obtain ⟨cap, h6, h7, h8⟩ := hpl
            cases h6
            refine ⟨c, by simp [hl], by omega, ?_⟩
            simp only [Nat.zero_add]
            rw [Nat.add_mul] at h8; omega
      | _ => simp [OutR] at h

/-- A contract of plain data, out of the body. -/
theorem PFun.intro {chk : Chk} {g : FuncId} {fn : Func} {c : Code} {res : List ResultVar} {D : Dr} (hD : ∀ B : Base, B.σ.length = 0 → DrawOK P B N chk D) (hfn : FnOK P g fn c N chk res) {ds : List VL.D} (hl : ds.length ≤ N) {o : Out}
    (h : vwp P 0 D c (BodyK P 0 res (FinF o) (FinFP o)) ⟨env0 (ds.map .d), [], []⟩) : PFun P g ds o := by
  intro w vals Z hZ hv
  refine .inl ⟨run_enter hfn _, ?_⟩
  have hb : WR (base0 w Z) (fun _ => none) [] w := by
    refine ⟨⟨by simp, by simp⟩, Nat.le_refl _, fun _ _ _ => rfl, fun _ h => .inl h, Ext.refl _ _, ⟨rfl, rfl, rfl⟩, Plc.refl _ _ _⟩
  have hv' : VRelL (fun _ => none) [] w (Zc (base0 w Z) (fun _ => none) [] w) (ds.map .d) vals := by
    refine ⟨by simpa using hv.1, fun j x v hx hu => ?_⟩
    rw [List.getElem?_map] at hx
    cases hc : ds[j]? with
    | none => rw [hc] at hx; simp at hx
    | some y =>
      rw [hc] at hx; simp at hx; subst hx
      exact .d _ _ ((hv.2 j y v hc hu).mono (fun _ _ _ _ h => h) (fun b hb => ⟨.inl hb, by rintro ⟨id, o, p, h1, _⟩; simp at h1, hZ b hb⟩))
  refine body_sound (hD (base0 w Z) rfl) hfn.at_ hfn.body hfn.tmps hfn.dst hb hv' (by simpa using hl) ?_ (by rw [hfn.res]; exact h)
  refine ⟨fun rs σ1 w1 β1 vs hR hw1 hrs => ?_, fun x σ1 w1 β1 v hR hw1 hd => ?_⟩
  · cases o with
    | pan y => exact hR.elim
    | ret l =>
      obtain ⟨hout, hnd, hdis⟩ := hR
      simp only
      obtain ⟨hm, hfl⟩ := frzs_sound (idsL σ1 (dOf rs l)) σ1 hw1
      obtain ⟨hlen, hsrc⟩ := src_of rs l 0 hout
      have hdis' : ∀ id ∈ fsIds rs l, id ∉ idsL σ1 (dOf rs l) := fun id hid => of_decide_eq_true (List.all_eq_true.1 hdis id hid)
      -- a row's source is live still
      have hlive : ∀ (k : Nat) (o : Ob) (q : Pl), (thaw 0 l).2[k]? = some o → btOf β1 (srcT rs l) k = some q → ∃ id s g sz es es' p, (srcT rs l)[k]? = some (some (id, s)) ∧ o = .arr true 0 sz es ∧ σ1[id]? = some (.arr true g sz es') ∧
          (frzL σ1 (dOf rs l))[id]? = some (.arr true g sz es') ∧ s + es.length ≤ es'.length ∧ es = (es'.drop s).take es.length ∧ β1 id = some p ∧ q = { p with base := p.base + s * p.sz } := by
        intro k o q ho hq
        have hk : k < (srcT rs l).length := by rw [← hlen]; exact get_lt ho
        have ht := hsrc k o _ ho (List.getElem?_eq_getElem hk)
        unfold btOf at hq
        rw [List.getElem?_eq_getElem hk] at hq
        cases hT : (srcT rs l)[k] with
        | none => rw [hT] at hq; simp at hq
        | some t =>
          obtain ⟨id, s⟩ := t
          rw [hT] at hq ht
          obtain ⟨sz, es, g, es', h1, h2, h3, h4⟩ := ht
          cases hp : β1 id with
          | none => simp [hp] at hq
          | some p =>
            simp [hp] at hq
            have hid : id ∈ fsIds rs l := by
              rw [← fsIds_src]
              exact List.mem_filterMap.2 ⟨some (id, s), by rw [← hT]; exact List.getElem_mem hk, rfl⟩
            exact ⟨id, s, g, sz, es, es', p, by rw [List.getElem?_eq_getElem hk, hT], h1, h2, frzL_other (σ := σ1) _ h2 (hdis' id hid), h3, h4, hp, hq.symm⟩
      have hown : ∀ b, Own (btOf β1 (srcT rs l)) (thaw 0 l).2 b → Own β1 (frzL σ1 (dOf rs l)) b := by
        rintro b ⟨k, o, q, ho, hlv, hq, hb⟩
        obtain ⟨id, s, g, sz, es, es', p, _, _, _, h1, _, _, h2, h3⟩ := hlive k o q ho hq
        exact ⟨id, _, p, h1, rfl, h2, by rw [← hb, h3]⟩
      have hz : ∀ b, Zc (base0 w Z) β1 (frzL σ1 (dOf rs l)) w1 b → Zc (base0 w Z) (btOf β1 (srcT rs l)) (thaw 0 l).2 w1 b := fun b hb => ⟨hb.1, fun ho => hb.2.1 (hown b ho), hb.2.2⟩
      have hw2 : WR (base0 w Z) (btOf β1 (srcT rs l)) (thaw 0 l).2 w1 := by
        refine ⟨⟨?_, ?_⟩, hw1.size, hw1.keep, fun b hb => hm.wr.own b (hown b hb), by intro id o h; simp [base0] at h, hw1.rest, ?_⟩
        · intro k o ho
          obtain ⟨sz, es, rfl, _⟩ := thaw_arr l 0 o (List.mem_of_getElem? ho)
          cases hq : btOf β1 (srcT rs l) k with
          | none =>
            have hk : k < (srcT rs l).length := by rw [← hlen]; exact get_lt ho
            have ht := hsrc k _ _ ho (List.getElem?_eq_getElem hk)
            unfold btOf at hq
            rw [List.getElem?_eq_getElem hk] at hq
            cases hT : (srcT rs l)[k] with
            | none =>
              rw [hT] at ht
              obtain ⟨sz', he⟩ := ht
              cases he; exact ⟨by simp, rfl⟩
            | some t =>
              obtain ⟨id, s⟩ := t
              rw [hT] at hq ht
              obtain ⟨sz', es', g, es'', h1, h2, h3, h4⟩ := ht
              cases h1
              have hb : β1 id = none := by simpa using hq
              have := hw1.inv.holds id _ h2
              rw [hb] at this
              obtain ⟨_, h5⟩ := this
              subst h5
              have hes : es = [] := by simpa using h4
              subst hes
              exact ⟨by simp, rfl⟩
          | some q =>
            obtain ⟨id, s, g, sz', es0, es', p, _, h1, h2, h2', h3, h4, h5, h6⟩ := hlive k _ q ho hq
            cases h1
            obtain ⟨h7, h8⟩ := hm.wr.inv.holds id _ h2'
            rw [h5] at h8
            obtain ⟨h9, h10, ⟨cu, T, fz, h11, h12, h13⟩, h14⟩ := h8
            refine ⟨?_, ?_⟩
            · intro e he; rw [h4] at he; exact h7 e (List.mem_of_mem_drop (List.mem_of_mem_take he))
            · subst h6
              refine ⟨h9, ?_, ⟨cu, T, fz, h11, h12, h13⟩, fun i j e x hi hj => ?_⟩
              · have : (s + es.length) * sz ≤ es'.length * sz := Nat.mul_le_mul_right _ h3
                rw [Nat.add_mul] at this
                simp only [h9]; omega
              · rw [h4, List.getElem?_take] at hi
                split at hi
                · rw [List.getElem?_drop] at hi
                  obtain ⟨v, hv1, hv2, hv3⟩ := h14 (s + i) j e x hi hj
                  refine ⟨v, ?_, hv2, hv3.mono (fun _ _ _ _ h => h) hz⟩
                  have e2 : p.base + s * p.sz + i * sz + j = p.base + (s + i) * sz + j := by rw [h9, Nat.add_mul]; omega
                  simp only [e2]; exact hv1
                · simp at hi
        · intro k o k' o' q q' ho ho' hlv hal hne hq hq'
          obtain ⟨id, s, g, sz, es, es', p, t1, _, _, h1, _, _, h2, h3⟩ := hlive k o q ho hq
          obtain ⟨id', s', g', sz', es2, es2', p', t2, _, _, h1', _, _, h2', h3'⟩ := hlive k' o' q' ho' hq'
          have hids : id ≠ id' := by
            intro e; subst e
            exact hne (src_inj _ (by rw [fsIds_src]; exact hnd) k k' id s s' t1 t2)
          subst h3; subst h3'
          exact hm.wr.inv.apart id _ id' _ p p' h1 h1' rfl rfl hids h2 h2'
        · intro k o q ho hal hq
          obtain ⟨id, s, g, sz, es, es', p, _, _, _, h1, _, _, h2, h3⟩ := hlive k o q ho hq
          rcases hm.wr.place id _ p h1 rfl h2 with h4 | ⟨o0, q0, h4, _⟩
          · subst h3; exact .inl h4
          · simp [base0] at h4
      have hvals : VRelL (btOf β1 (srcT rs l)) (thaw 0 l).2 w1 (Zc (base0 w Z) (btOf β1 (srcT rs l)) (thaw 0 l).2 w1) (thaw 0 l).1 vs := by
        refine thaw_vals rs l vs 0 hout hrs (by simp) (by simp) ?_
        intro x y v hx hy hxv
        refine DRel.mono (Z := Zc (base0 w Z) β1 (frzL σ1 (dOf rs l)) w1) ?_ (fun _ _ _ _ h => h) hz
        refine toD_gen hw1 hm.zc 5 x v y hy hxv (fun id hid o q ho ha hq => ?_)
        have hid : id ∈ idsL σ1 (dOf rs l) := List.mem_flatMap.2 ⟨x, hx, hid⟩
        have hlt := Inv.lt hw1 ho ha hq
        obtain ⟨o', ho', ha', hl', _⟩ := hfl id o ho
        have hlf := hl' hid
        refine ⟨?_, fun hown => ?_, hlt⟩
        · rcases hw1.place id o q ho ha hq with h1 | ⟨o0, q0, h1, _⟩
          · exact .inr h1
          · simp [base0] at h1
        · obtain ⟨j, oj, p, hj, hlj, hp, hb⟩ := hown
          have hj : ((idsL σ1 (dOf rs l)).foldl frz1 σ1)[j]? = some oj := hj
          by_cases e : j = id
          · subst e
            rw [ho'] at hj
            cases hj; rw [hlf] at hlj; simp at hlj
          · exact hm.wr.inv.apart j oj id o' p q hj ho' hlj (by rw [ha', ha]) e hp hq hb
      exact ⟨_, _, rfl, hw2, retV_rel hvals⟩
  · cases o with
    | ret l => exact hR.elim
    | pan y =>
      obtain ⟨rfl, _⟩ := hR
      have hw2 : WR (base0 w Z) (fun _ => none) [] w1 := by
        refine ⟨⟨by simp, by simp⟩, hw1.size, hw1.keep, fun b hb => ?_, by intro id o h; simp [base0] at h, hw1.rest, by intro id o q h; simp at h⟩
        obtain ⟨id, o, p, h1, _⟩ := hb; simp at h1
      exact ⟨v, rfl, hw2, hd.mono (fun _ _ _ _ h => h) (fun b hb => ⟨hb.1, by rintro ⟨id, o, p, h1, _⟩; simp at h1, hb.2.2⟩)⟩
end
end Go.VL
namespace Go.VL
open Go

section
variable {P : Program} {m : Nat} {D : Dr} {K : VX → VS → Prop} {s : VS}
theorem vwp_skip : vwp P m D .skip K s = K .normal s := (rfl)
theorem vwp_label {l} : vwp P m D (.label l) K s = K .normal s := (rfl)
theorem vwp_seq {a b} : vwp P m D (.seq a b) K s = vwp P m D a (Then (vwp P m D b K) K) s := (rfl)
theorem vwp_region {i ops} : vwp P m D (.region i ops false) K s = vops P m ops K ops.toList s := (rfl)
theorem vwp_draw {i ops} : vwp P m D (.region i ops true) K s = D i ops K s := (rfl)
theorem vwp_cond {c x y} : vwp P m D (.cond c x y) K s = ob (boolOf (veval s.env c)) (CondK (vwp P m D x K) (vwp P m D y K) s) := (rfl)
theorem vwp_block {i c} : vwp P m D (.block i c) K s = vwp P m D c (Blk i K) s := (rfl)
theorem vwp_exit {i} : vwp P m D (.exit i) K s = K (.exit i) s := (rfl)
theorem vwp_ret : vwp P m D .ret K s = K .ret s := (rfl)
theorem Then_normal {next K s} : Then next K .normal s = next s := (rfl)
theorem Then_exit {next K s i} : Then next K (.exit i) s = K (.exit i) s := (rfl)
theorem Then_ret {next K s} : Then next K .ret s = K .ret s := (rfl)
theorem Then_panic {next K s x} : Then next K (.panic x) s = K (.panic x) s := (rfl)
theorem Blk_normal {i K s} : Blk i K .normal s = K .normal s := (rfl)
theorem Blk_exit {i j K s} : Blk i K (.exit j) s = if j = i then K .normal s else K (.exit j) s := (rfl)
theorem Blk_ret {i K s} : Blk i K .ret s = K .ret s := (rfl)
theorem Blk_panic {i K s x} : Blk i K (.panic x) s = K (.panic x) s := (rfl)
theorem ob_some {α : Type} {x : α} {k : α → Prop} : ob (some x) k = k x := (rfl)
theorem ob_none {α : Type} {k : α → Prop} : ob none k = False := (rfl)
theorem ob_ite {α : Type} {c : Prop} [Decidable c] {x y : Option α} {k : α → Prop} : ob (if c then x else y) k = if c then ob x k else ob y k := by split <;> rfl
theorem map_ite {α β : Type} {c : Prop} [Decidable c] {x y : Option α} {f : α → β} : Option.map f (if c then x else y) = if c then x.map f else y.map f := by split <;> rfl
theorem vops_nil {ops} : vops P m ops K [] s = K .normal s := (rfl)
theorem vops_cons {ops dst op ty pos after rest} : vops P m ops K (⟨dst, op, ty, pos, after, none⟩ :: rest) s = vstep P m ⟨dst, op, ty, pos, after, none⟩ K (vops P m ops K rest) s := (rfl)
theorem vops_guard {ops dst op ty pos after j want rest} : vops P m ops K (⟨dst, op, ty, pos, after, some (j, want)⟩ :: rest) s =
    ob (guardV ops s.env j) (GuardK (vstep P m ⟨dst, op, ty, pos, after, some (j, want)⟩ K (vops P m ops K rest)) (vops P m ops K rest) want s ⟨putV s.env dst (.tup []), s.df, s.σ⟩) := (rfl)
theorem StepK_eq {next dst s} {r : PV × St} : StepK next dst s r = next ⟨putV s.env dst r.1, s.df, r.2⟩ := (rfl)
theorem CondK_eq {yes no : VS → Prop} {b} : CondK yes no s b = if b = true then yes s else no s := (rfl)

theorem GuardK_eq {yes no : VS → Prop} {want : Bool} {s s' : VS} {b : Option Bool} : GuardK yes no want s s' b = if b = some want then yes s else no s' := (rfl)
theorem PanK_eq {x : VL.D} : PanK K s x = K (.panic x) s := (rfl)
theorem FnK_eq {next : VS → Prop} {dst : Option Tmp} {args : List PV} {g : FuncId} {a b : List PV} : FnK P m K next dst s args (g, a, b) = PCalls P m g (a ++ args ++ b) s.σ (CallK K next dst s) := (rfl)
theorem DeferK_eq {next : VS → Prop} {dst : Option Tmp} {args : List PV} {g : FuncId} {a b : List PV} : DeferK next dst s args (g, a, b) = next ⟨putV s.env dst .any, ⟨g, b, a ++ args⟩ :: s.df, s.σ⟩ := (rfl)
theorem CallK_ret {next : VS → Prop} {dst : Option Tmp} {x : PV} {σ' : St} : CallK K next dst s (.ret x) σ' = next ⟨putV s.env dst x, s.df, σ'⟩ := (rfl)
theorem CallK_pan {next : VS → Prop} {dst : Option Tmp} {x : VL.D} {σ' : St} : CallK K next dst s (.pan x) σ' = K (.panic x) ⟨s.env, s.df, σ'⟩ := (rfl)
theorem BodyK_normal {res : List ResultVar} {R : List PV → St → Prop} {RP : VL.D → St → Prop} : BodyK P m res R RP .normal s = vleaves P m res s.env R RP s.df none s.σ := (rfl)
theorem BodyK_ret {res : List ResultVar} {R : List PV → St → Prop} {RP : VL.D → St → Prop} : BodyK P m res R RP .ret s = vleaves P m res s.env R RP s.df none s.σ := (rfl)
theorem BodyK_panic {res : List ResultVar} {R : List PV → St → Prop} {RP : VL.D → St → Prop} {x : VL.D} : BodyK P m res R RP (.panic x) s = vleaves P m res s.env R RP s.df (some x) s.σ := (rfl)
theorem vleaves_none {res : List ResultVar} {env : Env} {R : List PV → St → Prop} {RP : VL.D → St → Prop} {σ : St} : vleaves P m res env R RP [] none σ = ob (vres P env σ res) (ResK R σ) := (rfl)
theorem vleaves_some {res : List ResultVar} {env : Env} {R : List PV → St → Prop} {RP : VL.D → St → Prop} {σ : St} {x : VL.D} : vleaves P m res env R RP [] (some x) σ = RP x σ := (rfl)
theorem vleaves_cons {res : List ResultVar} {env : Env} {R : List PV → St → Prop} {RP : VL.D → St → Prop} {σ : St} {d : DV} {ds : List DV} {md : Option VL.D} : vleaves P m res env R RP (d :: ds) md σ = PDefs P m d σ md (vleaves P m res env R RP ds) := (rfl)
theorem ResK_eq {R : List PV → St → Prop} {σ : St} {rs : List PV} : ResK R σ rs = R rs σ := (rfl)
theorem upd_same {env : Env} {t : Nat} {x : PV} : upd env t x t = x := by simp [upd]
theorem upd_ne {env : Env} {t u : Nat} {x : PV} (h : u ≠ t) : upd env t x u = env u := by simp [upd, h]
theorem env0_eq {l : List PV} {t : Nat} : env0 l t = (l[t]?).getD .any := by simp [env0, List.getD]
theorem putV_some {env : Env} {d : Nat} {x : PV} : putV env (some d) x = upd env d x := (rfl)
theorem putV_none {env : Env} {x : PV} : putV env none x = env := (rfl)
theorem veval_tmp {env : Env} {t : Nat} : veval env (.tmp t) = env t := (rfl)
theorem veval_int {env : Env} {k : IntKind} {n : Int} : veval env (.const (.int k n)) = .d (.int k n) := (rfl)
theorem veval_bool {env : Env} {b : Bool} : veval env (.const (.bool b)) = .d (.bool b) := (rfl)
theorem veval_flt {env : Env} {b : Nat} : veval env (.const (.float .f64 b)) = .d (.flt b) := (rfl)
theorem veval_str {env : Env} {s : ByteArray} : veval env (.const (.string s)) = .d (.str s.data.toList) := (rfl)
theorem veval_nilp {env : Env} : veval env (.const (.pointer none)) = .d .nilp := (rfl)
theorem veval_nil {env : Env} : veval env (.const (.slice none 0 0)) = .nil := (rfl)
theorem veval_nilf {env : Env} : veval env (.const .nilFunc) = .d .nilf := (rfl)
theorem veval_nili {env : Env} : veval env (.const .nilIface) = .d .nili := (rfl)
theorem veval_agg {env : Env} {cs : Array Value} : veval env (.const (.agg cs)) = .agg (cs.toList.map pvC) := (rfl)
theorem veval_func {env : Env} {f : FuncId} : veval env (.func f) = .d (.fn (.func f) [] []) := (rfl)
end
end Go.VL
namespace Go.VL
open Go

section
variable {P : Program} {m : Nat}

theorem ps_congr {ρ ρ' : Operand → PV} (ps : List (Nat × Operand)) (h : ∀ x ∈ ps.map (·.2), ρ x = ρ' x) :
    (ps.map fun p => (p.1, ρ p.2)) = ps.map fun p => (p.1, ρ' p.2) :=
  List.map_congr_left fun p hm => by rw [h p.2 (List.mem_map.2 ⟨p, hm, rfl⟩)]

theorem vop_congr {ρ ρ' : Operand → PV} (σ : St) (op : Op) (h : ∀ x ∈ op.operands, ρ x = ρ' x) : vop P m σ ρ op = vop P m σ ρ' op := by
  cases op <;> simp only [Op.operands] at h <;> simp only [vop]
  case build t ps => rw [ps_congr ps.toList fun x hx => h x (by simpa using hx)]
  case buildSlice t n ps => rw [ps_congr ps.toList fun x hx => h x (by simpa using hx)]
  case makeFunc fn first captured =>
    rw [List.map_congr_left (l := first.toList) fun x hx => h x (by simp at hx; simp [hx]), List.map_congr_left (l := captured.toList) fun x hx => h x (by simp at hx; simp [hx])]
  case call c =>
    cases hc : c.callee with
    | builtin b =>
      simp only
      rw [List.map_congr_left (l := c.args.toList) fun x hx => h x (by simp at hx; simp [Call.operands, hx])]
    | _ => rfl
  case slice t x lo hi mx =>
    cases mx <;> simp only
    have hx : ρ x = ρ' x := h x (by simp)
    have hlo : lo.map ρ = lo.map ρ' := by cases lo with
      | none => rfl
      | some y => simp only [Option.map_some]; rw [h y (by simp)]
    have hhi : hi.map ρ = hi.map ρ' := by cases hi with
      | none => rfl
      | some y => simp only [Option.map_some]; rw [h y (by simp)]
    rw [hx, hlo, hhi]
  all_goals (first | rfl | (simp_all; done))

/-- The places that an operation looks at. -/
def looks (ops : Array Oper) (o : Oper) : List Tmp := o.looksAt ops

theorem veval_congr {ops : Array Oper} {o : Oper} {e e' : Env} (h : ∀ t ∈ looks ops o, e t = e' t) : ∀ x ∈ o.op.operands, veval e x = veval e' x := by
  intro x hx
  cases x with
  | tmp t => exact h t (List.mem_append_left _ (List.mem_filterMap.2 ⟨.tmp t, by simpa using hx, rfl⟩))
  | _ => rfl

theorem guardV_congr {ops : Array Oper} {o : Oper} {e e' : Env} (h : ∀ t ∈ looks ops o, e t = e' t) {j : Nat} {b : Bool} (hg : o.guard = some (j, b)) : guardV ops e j = guardV ops e' j := by
  unfold guardV
  cases ht : (ops[j]?).bind (·.dst) with
  | none => rfl
  | some t =>
    have : e t = e' t := h t (by simp [looks, Oper.looksAt, hg, ht])
    simp only [this]

theorem ob_mono {α : Type} {o : Option α} {k k' : α → Prop} (h : ∀ a, k a → k' a) (ho : ob o k) : ob o k' := by
  cases o with
  | none => exact ho.elim
  | some a => exact h a ho

theorem PCalls.post {g : FuncId} {args : List PV} {σ : St} {R R' : VO → St → Prop} (h : PCalls P m g args σ R) (hr : ∀ o σ', R o σ' → R' o σ') : PCalls P m g args σ R' := by
  intro B β w va hB hw ha
  rcases h B β w va hB hw ha with ⟨h1, h2⟩ | ⟨v, w', h1, o, σ', β', h2, h3⟩
  · exact .inl ⟨h1, h2.mono fun e w' ⟨o, σ', β', h3, h4⟩ => ⟨o, σ', β', hr o σ' h3, h4⟩⟩
  · exact .inr ⟨v, w', h1, o, σ', β', hr o σ' h2, h3⟩

/-- An operation sees its operands only, and changes its own place only. -/
theorem vstep_congr {ops : Array Oper} {o : Oper} {K K' : VX → VS → Prop} {next next' : VS → Prop} {e e' : Env} {df : List DV} {σ : St}
    (he : ∀ t ∈ looks ops o, e t = e' t) (hn : ∀ x df σ, next ⟨putV e o.dst x, df, σ⟩ → next' ⟨putV e' o.dst x, df, σ⟩)
    (hK : ∀ x df σ, K (.panic x) ⟨e, df, σ⟩ → K' (.panic x) ⟨e', df, σ⟩) (h : vstep P m o K next ⟨e, df, σ⟩) : vstep P m o K' next' ⟨e', df, σ⟩ := by
  have hx := veval_congr he
  have gen : ob (vop P m σ (veval e) o.op) (StepK next o.dst ⟨e, df, σ⟩) → ob (vop P m σ (veval e') o.op) (StepK next' o.dst ⟨e', df, σ⟩) := by
    intro h
    rw [vop_congr σ o.op hx] at h
    exact ob_mono (fun r hr => hn _ _ _ hr) h
  obtain ⟨dst, op, type, pos, after, guard⟩ := o
  cases op with
  | panic x =>
    simp only [vstep] at h ⊢
    rw [hx x (by simp [Op.operands])] at h
    exact ob_mono (fun r hr => hK _ _ _ hr) h
  | defer c =>
    obtain ⟨callee, cargs, ctys⟩ := c
    cases callee with
    | value f =>
      simp only [vstep] at h ⊢
      have hf := hx f (by simp [Op.operands, Call.operands])
      have ha : cargs.toList.map (veval e) = cargs.toList.map (veval e') := List.map_congr_left fun y hy => hx y (by simp at hy; simp [Op.operands, Call.operands, hy])
      rw [hf, ha] at h
      exact ob_mono (fun r hr => hn _ _ _ hr) h
    | _ => simp [vstep] at h
  | call c =>
    obtain ⟨callee, cargs, ctys⟩ := c
    have ha : cargs.toList.map (veval e) = cargs.toList.map (veval e') := List.map_congr_left fun y hy => hx y (by simp at hy; simp [Op.operands, Call.operands, hy])
    cases callee with
    | value f =>
      simp only [vstep] at h ⊢
      have hf := hx f (by simp [Op.operands, Call.operands])
      rw [hf, ha] at h
      refine ob_mono (fun r hr => PCalls.post hr fun o σ' ho => ?_) h
      cases o with
      | ret x => exact hn _ _ _ ho
      | pan x => exact hK _ _ _ ho
    | builtin b =>
      simp only [vstep] at h ⊢
      rw [ha] at h
      exact ob_mono (fun r hr => hn _ _ _ hr) h
    | _ => simp [vstep] at h
  | _ => exact gen h

theorem vstep_read {o : Oper} {K : VX → VS → Prop} {next : VS → Prop} {s : VS} {r : PV × St} (he : vop P m s.σ (veval s.env) o.op = some r) (h : StepK next o.dst s r) : vstep P m o K next s := by
  have gen : ob (vop P m s.σ (veval s.env) o.op) (StepK next o.dst s) := by rw [he]; exact h
  obtain ⟨dst, op, type, pos, after, guard⟩ := o
  cases op with
  | call c =>
    obtain ⟨callee, cargs, ctys⟩ := c
    cases callee with
    | builtin b => exact gen
    | _ => simp [vop] at he
  | panic x => simp [vop] at he
  | defer c => simp [vop] at he
  | _ => exact gen
end
end Go.VL
namespace Go.VL
open Go

def predsOf (o : Oper) : List Nat := (o.after.toList.filter fun e => Region.binds .any e).map (·.on)
def preds (ops : Array Oper) (i : Nat) : List Nat :=
  match ops[i]? with
  | some o => predsOf o
  | none => []
def looksOf (ops : Array Oper) (i : Nat) : List Tmp :=
  match ops[i]? with
  | some o => looks ops o
  | none => []
def dstAt (ops : Array Oper) (i : Nat) : Option Tmp := (ops[i]?).bind (·.dst)

def look (tbl : List (Nat × List Nat)) (i : Nat) : List Nat :=
  match tbl.find? (fun x => x.1 == i) with
  | some x => x.2
  | none => []
def addAll : List Nat → List Nat → List Nat
  | [], acc => acc
  | x :: r, acc => addAll r (if acc.contains x then acc else x :: acc)
def ancs (ops : Array Oper) : List Nat → List (Nat × List Nat) → List (Nat × List Nat)
  | [], tbl => tbl
  | i :: r, tbl => ancs ops r ((i, addAll ((preds ops i).flatMap (look tbl)) (preds ops i)) :: tbl)

def nd : List Nat → Bool
  | [] => true
  | a :: r => !r.contains a && nd r
def preOk (ops : Array Oper) : List Nat → List Nat → Bool
  | _, [] => true
  | done, i :: r => (preds ops i).all done.contains && preOk ops (i :: done) r
def effOk (E : List Nat) (tbl : List (Nat × List Nat)) : List Nat → List (Nat × List Nat) → Bool
  | _, [] => true
  | done, (i, pend) :: r =>
    (if E.contains i then done.all (fun p => E.contains p || pend.contains p || (look tbl i).contains p) && r.all (fun x => (look tbl x.1).contains i) else true) &&
    effOk E tbl (i :: done) r
def dstOf (ops : Array Oper) (i j : Nat) : Bool :=
  i == j || match dstAt ops i, dstAt ops j with
    | some a, some b => a != b
    | _, _ => true
def ordOk (ops : Array Oper) (E : List Nat) (L : List (Nat × List Nat)) : Bool :=
  let ids := L.map (·.1)
  let tbl := ancs ops ids []
  nd ids && ids.all (fun i => decide (i < ops.size)) && (List.range ops.size).all ids.contains && preOk ops [] ids &&
  ids.all (fun i => (looksOf ops i).all fun t => ids.all fun j => dstAt ops j != some t || (look tbl i).contains j || (E.contains j && (i == j || (look tbl j).contains i))) &&
  effOk E tbl [] L && ids.all (fun i => ids.all (dstOf ops i))

/-- Closed downward. -/
def Down (ops : Array Oper) (S : Nat → Prop) : Prop := ∀ i, S i → ∀ p ∈ preds ops i, S p

def Good (ops : Array Oper) (tbl : List (Nat × List Nat)) : Prop :=
  ∀ x ∈ tbl, ∀ S, Down ops S → (∀ p ∈ preds ops x.1, S p) → ∀ j ∈ x.2, S j

section
variable {ops : Array Oper} {E : List Nat}

theorem Good.look {tbl : List (Nat × List Nat)} (h : Good ops tbl) {i : Nat} {S : Nat → Prop} (hS : Down ops S) (hp : ∀ p ∈ preds ops i, S p) : ∀ j ∈ look tbl i, S j := by
  intro j hj
  unfold Go.VL.look at hj
  cases hf : tbl.find? (fun x => x.1 == i) with
  | none => rw [hf] at hj; simp at hj
  | some x =>
    rw [hf] at hj
    have hm := List.mem_of_find?_eq_some hf
    have hx := List.find?_some hf
    simp only [beq_iff_eq] at hx
    exact h x hm S hS (by rw [hx]; exact hp) j hj

theorem mem_addAll {j : Nat} : ∀ {l acc : List Nat}, j ∈ addAll l acc → j ∈ l ∨ j ∈ acc
  | [], acc, h => .inr h
  | x :: r, acc, h => by
    simp only [addAll] at h
    rcases mem_addAll h with h1 | h1
    · exact .inl (by simp [h1])
    · split at h1
      · exact .inr h1
      · simp only [List.mem_cons] at h1
        rcases h1 with rfl | h1
        · exact .inl (by simp)
        · exact .inr h1

theorem Good.ancs : ∀ (l : List Nat) {tbl : List (Nat × List Nat)}, Good ops tbl → Good ops (ancs ops l tbl)
  | [], _, h => h
  | i :: r, tbl, h => by
    refine Good.ancs r ?_
    intro x hx S hS hp j hj
    simp only [List.mem_cons] at hx
    rcases hx with rfl | hx
    · rcases mem_addAll hj with h1 | h1
      · obtain ⟨p, hp1, hp2⟩ := List.mem_flatMap.1 h1
        exact h.look hS (fun q hq => hS p (hp p hp1) q hq) j hp2
      · exact hp j h1
    · exact h x hx S hS hp j hj

theorem nd_nodup : ∀ {l : List Nat}, nd l = true → l.Nodup
  | [], _ => List.nodup_nil
  | a :: r, h => by
    simp only [nd, Bool.and_eq_true, Bool.not_eq_true'] at h
    refine List.nodup_cons.2 ⟨fun hm => ?_, nd_nodup h.2⟩
    have := h.1
    simp [hm] at this

theorem preOk_split : ∀ {done l : List Nat}, preOk ops done l = true → ∀ {A : List Nat} {i : Nat} {Bs : List Nat}, l = A ++ i :: Bs → ∀ p ∈ preds ops i, p ∈ done ∨ p ∈ A
  | done, [], _, A, i, Bs, he => by simp at he
  | done, x :: r, h, [], i, Bs, he => by
    simp only [List.nil_append, List.cons.injEq] at he
    obtain ⟨rfl, rfl⟩ := he
    simp only [preOk, Bool.and_eq_true, List.all_eq_true] at h
    intro p hp
    exact .inl (by simpa using h.1 p hp)
  | done, x :: r, h, a :: A, i, Bs, he => by
    simp only [List.cons_append, List.cons.injEq] at he
    obtain ⟨rfl, rfl⟩ := he
    simp only [preOk, Bool.and_eq_true] at h
    intro p hp
    rcases preOk_split h.2 rfl p hp with h1 | h1
    · simp only [List.mem_cons] at h1
      rcases h1 with rfl | h1
      · exact .inr (by simp)
      · exact .inl h1
    · exact .inr (by simp [h1])

theorem effOk_split {tbl : List (Nat × List Nat)} : ∀ {l : List (Nat × List Nat)} {done : List Nat}, effOk E tbl done l = true → ∀ {A : List (Nat × List Nat)} {i : Nat} {pend : List Nat} {Bs : List (Nat × List Nat)}, l = A ++ (i, pend) :: Bs →
      i ∈ E → (∀ p, p ∈ done ∨ p ∈ A.map (·.1) → p ∈ E ∨ p ∈ pend ∨ p ∈ look tbl i) ∧ ∀ x ∈ Bs.map (·.1), i ∈ look tbl x
  | [], done, _, A, i, pend, Bs, he => by simp at he
  | x :: r, done, h, [], i, pend, Bs, he => by
    intro hi
    simp only [List.nil_append, List.cons.injEq] at he
    obtain ⟨rfl, rfl⟩ := he
    have hc : E.contains i = true := by simpa using hi
    simp only [effOk, hc, if_true, Bool.and_eq_true, List.all_eq_true, Bool.or_eq_true, List.contains_iff_mem] at h
    refine ⟨fun p hp => ?_, fun x hx => ?_⟩
    · rcases hp with hp | hp
      · rcases h.1.1 p hp with (h1 | h1) | h1
        · exact .inl h1
        · exact .inr (.inl h1)
        · exact .inr (.inr h1)
      · simp at hp
    · obtain ⟨y, hy, rfl⟩ := List.mem_map.1 hx
      exact h.1.2 y hy
  | x :: r, done, h, a :: A, i, pend, Bs, he => by
    intro hi
    simp only [List.cons_append, List.cons.injEq] at he
    obtain ⟨rfl, rfl⟩ := he
    obtain ⟨x, px⟩ := x
    simp only [effOk, Bool.and_eq_true] at h
    obtain ⟨h1, h2⟩ := effOk_split h.2 rfl hi
    refine ⟨fun p hp => h1 p ?_, h2⟩
    simp only [List.map_cons, List.mem_cons] at hp ⊢
    rcases hp with hp | rfl | hp
    · exact .inl (.inr hp)
    · exact .inl (.inl rfl)
    · exact .inr hp

/-- What an order is worth. -/
structure Ord (ops : Array Oper) (E : List Nat) (L : List (Nat × List Nat)) : Prop where
  nodup : (L.map (·.1)).Nodup
  lt : ∀ i ∈ L.map (·.1), i < ops.size
  all : ∀ i, i < ops.size → i ∈ L.map (·.1)
  pre : ∀ {A i Bs}, L.map (·.1) = A ++ i :: Bs → ∀ p ∈ preds ops i, p ∈ A
  reads : ∀ {i j t}, i ∈ L.map (·.1) → j ∈ L.map (·.1) → t ∈ looksOf ops i → dstAt ops j = some t →
    (∀ S, Down ops S → (∀ p ∈ preds ops i, S p) → S j) ∨ (j ∈ E ∧ (i = j ∨ ∀ S, Down ops S → (∀ p ∈ preds ops j, S p) → S i))
  effs : ∀ {A i pend Bs}, L = A ++ (i, pend) :: Bs → i ∈ E →
    (∀ p ∈ A.map (·.1), p ∈ E ∨ p ∈ pend ∨ ∀ S, Down ops S → (∀ q ∈ preds ops i, S q) → S p) ∧
    ∀ x ∈ Bs.map (·.1), ∀ S, Down ops S → (∀ q ∈ preds ops x, S q) → S i
  dst : ∀ {i j t}, i ∈ L.map (·.1) → j ∈ L.map (·.1) → dstAt ops i = some t → dstAt ops j = some t → i = j

theorem ordOk_ord {L : List (Nat × List Nat)} (h : ordOk ops E L = true) : Ord ops E L := by
  simp only [ordOk, Bool.and_eq_true, List.all_eq_true, List.mem_range, List.contains_iff_mem, decide_eq_true_eq] at h
  obtain ⟨⟨⟨⟨⟨⟨h1, h2⟩, h3⟩, h4⟩, h5⟩, h6⟩, h7⟩ := h
  have hg : Good ops (ancs ops (L.map (·.1)) []) := Good.ancs _ (by intro x hx; simp at hx)
  refine ⟨nd_nodup h1, h2, h3, ?_, ?_, ?_, ?_⟩
  · intro A i Bs he p hp
    rcases preOk_split h4 he p hp with h8 | h8
    · simp at h8
    · exact h8
  · intro i j t hi hj ht hd
    have := h5 i hi t ht j hj
    simp only [hd, bne_self_eq_false, Bool.false_or, Bool.or_eq_true, Bool.and_eq_true, List.contains_iff_mem, beq_iff_eq] at this
    rcases this with h8 | ⟨h8, h9 | h9⟩
    · exact .inl fun S hS hp => hg.look hS hp j h8
    · exact .inr ⟨h8, .inl h9⟩
    · exact .inr ⟨h8, .inr fun S hS hp => hg.look hS hp i h9⟩
  · intro A i pend Bs he hi
    obtain ⟨h8, h9⟩ := effOk_split h6 he hi
    refine ⟨fun p hp => ?_, fun x hx S hS hq => hg.look hS hq i (h9 x hx)⟩
    rcases h8 p (.inr hp) with h10 | h10 | h10
    · exact .inl h10
    · exact .inr (.inl h10)
    · exact .inr (.inr fun S hS hq => hg.look hS hq p h10)
  · intro i j t hi hj h8 h9
    have := h7 i hi j hj
    simp only [dstOf, h8, h9, Bool.or_eq_true, beq_iff_eq, bne_self_eq_false] at this
    simpa using this
end
end Go.VL
