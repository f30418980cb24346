/- V-logic, rules of rewriting for drawn regions. -/
import Derived.ProofKit
import Derived.Deep.Slices
import Derived.Test.YtbgjkpokmlkgiaaVd
namespace Go.VL
open Go

section
variable {P : Program} {m : Nat} {K : VX → VS → Prop} {s : VS} {ops : Array Oper} {E : List Nat}
theorem drawH_eq {T : Tbl} {id : Nat} : drawH P m T id ops K s = match T.lookup id with
  | some (E, L) => vdr P m ops K E L s
  | none => False := (rfl)
theorem vdr_nil : vdr P m ops K E [] s = K .normal s := (rfl)
theorem vdr_cons {i : Nat} {pend : List Nat} {rest : List (Nat × List Nat)} : vdr P m ops K E ((i, pend) :: rest) s = match ops[i]? with
    | none => False
    | some o => vguard ops o (vdo P m ops K (E.contains i) o pend (vdr P m ops K E rest)) (vdr P m ops K E rest) s := (rfl)
theorem vguard_none {dst op ty pos after} {yes no : VS → Prop} : vguard ops ⟨dst, op, ty, pos, after, none⟩ yes no s = yes s := (rfl)
theorem vguard_some {dst op ty pos after j want} {yes no : VS → Prop} : vguard ops ⟨dst, op, ty, pos, after, some (j, want)⟩ yes no s =
    ob (guardV ops s.env j) (GuardK yes no want s ⟨putV s.env dst (.tup []), s.df, s.σ⟩) := (rfl)
theorem vdo_true {o : Oper} {pend : List Nat} {next : VS → Prop} : vdo P m ops K true o pend next s = vstep P m o (WipeK ops K) (PendK P m ops pend next) s := (rfl)
theorem vdo_false {o : Oper} {pend : List Nat} {next : VS → Prop} : vdo P m ops K false o pend next s = ob (vop P m s.σ (veval s.env) o.op) (ReadK o.dst s next) := (rfl)
theorem ReadK_eq {dst : Option Tmp} {next : VS → Prop} {r : PV × St} : ReadK dst s next r = (r.2 = s.σ ∧ next ⟨putV s.env dst r.1, s.df, s.σ⟩) := (rfl)
theorem PendK_nil {next : VS → Prop} : PendK P m ops [] next s = next s := by simp [PendK]
theorem PendK_cons {i : Nat} {l : List Nat} {next : VS → Prop} : PendK P m ops (i :: l) next s = (reAt P m ops s i ∧ PendK P m ops l next s) := by simp [PendK, and_assoc]
theorem WipeK_panic {x : VL.D} : WipeK ops K (.panic x) s = K (.panic x) ⟨wipe ops s.env, s.df, s.σ⟩ := (rfl)
theorem WipeK_normal : WipeK ops K .normal s = K .normal s := (rfl)
theorem CatchK_normal {R : Option VL.D → St → Prop} : CatchK m R .normal s = (s.df = [] ∧ ∃ n, m ≤ n ∧ (s.σ.take n).all (okOb n) = true ∧ R none (s.σ.take n)) := (rfl)
theorem CatchK_ret {R : Option VL.D → St → Prop} : CatchK m R .ret s = (s.df = [] ∧ ∃ n, m ≤ n ∧ (s.σ.take n).all (okOb n) = true ∧ R none (s.σ.take n)) := (rfl)
end
end Go.VL
namespace Go.VL
open Go Go.RowKit Go.ChangeShapes Go.Deep

def TyFs (P : Program) (T : TypeId → List VL.D → Prop) : List Field → List VL.D → Prop
  | [], ds => ds = []
  | f :: fs, ds => ∃ a b, ds = a ++ b ∧ a.length = P.cellsOf f.type ∧ T f.type a ∧ TyFs P T fs b
/-- Data of a type, cell by cell. -/
def TyD (P : Program) : Nat → TypeId → List VL.D → Prop
  | 0, _, _ => False
  | n + 1, t, ds => match P.underlying t with
    | some .bool => ∃ b, ds = [.bool b]
    | some (.int k) => ∃ x, ds = [.int k x] ∧ (Lit.int k x).wf = true
    | some (.float .f64) => ∃ b, ds = [.flt b] ∧ (Lit.float .f64 b).wf = true
    | some .string => ∃ l, ds = [.str l] ∧ l.length ≤ maxLen
    | some (.slice e) => ∃ l, ds = [.fz l] ∧ l.length ≤ maxLen ∧ ∀ c ∈ l, c.length = P.cellsOf e ∧ TyD P n e c
    | some (.struct fs) => TyFs P (TyD P n) fs.toList ds
    | _ => False

def offs (P : Program) : Nat → List Field → Option Nat
  | k, [] => some k
  | k, f :: fs => if f.offset = k then offs P (k + P.cellsOf f.type) fs else none
def plainT (P : Program) : Nat → TypeId → Bool
  | 0, _ => false
  | n + 1, t => match P.underlying t with
    | some .bool => true
    | some (.int _) => true
    | some (.float .f64) => true
    | some .string => true
    | some (.slice e) => decide (0 < P.cellsOf e) && plainT P n e
    | some (.struct fs) => offs P 0 fs.toList == some (P.cellsOf t) && fs.toList.all fun f => plainT P n f.type
    | _ => false

section
variable {H : Type} {enc : TypeId × Value → H} {P : Program} {W : World}

def CRel (W : World) (ds : List VL.D) (cs : List Value) : Prop :=
  ds.length = cs.length ∧ ∀ (j : Nat) (x : VL.D) (v : Value), ds[j]? = some x → cs[j]? = some v → DRel W (fun b => b < W.heap.size) x v ∧ v.oneCell' = true

theorem CRel.one {x : VL.D} {v : Value} (h : DRel W (fun b => b < W.heap.size) x v) (h1 : v.oneCell' = true := by rfl) : CRel W [x] [v] := by
  refine ⟨rfl, fun j y u hy hu => ?_⟩
  cases j with
  | zero => simp at hy hu; subst hy; subst hu; exact ⟨h, h1⟩
  | succ j => simp at hy

theorem CRel.append {a b : List VL.D} {x y : List Value} (h : CRel W a x) (h' : CRel W b y) : CRel W (a ++ b) (x ++ y) := by
  refine ⟨by simp [h.1, h'.1], fun j d v hd hv => ?_⟩
  have hl := h.1
  rcases Nat.lt_or_ge j a.length with h1 | h1
  · rw [List.getElem?_append_left h1] at hd; rw [List.getElem?_append_left (by omega)] at hv; exact h.2 j d v hd hv
  · rw [List.getElem?_append_right h1] at hd; rw [List.getElem?_append_right (by omega)] at hv
    rw [← hl] at hv; exact h'.2 _ d v hd hv

theorem open_fields {T : TypeId → List VL.D → Prop} {cs : List Value} : ∀ (fs : List Field) (k m : Nat), offs P k fs = some m →
    (∀ f ∈ fs, ∃ ds, CRel W ds ((cs.drop f.offset).take (P.cellsOf f.type)) ∧ T f.type ds) → m ≤ cs.length → k ≤ m ∧ ∃ ds, CRel W ds ((cs.drop k).take (m - k)) ∧ TyFs P T fs ds
  | [], k, m, ho, _, _ => by
    simp only [offs, Option.some.injEq] at ho
    subst ho
    exact ⟨Nat.le_refl _, [], by simp [CRel], rfl⟩
  | f :: fs, k, m, ho, hf, hm => by
    simp only [offs] at ho
    split at ho
    · rename_i hk
      obtain ⟨h1, ds, h2, h3⟩ := open_fields fs _ m ho (fun g hg => hf g (by simp [hg])) hm
      obtain ⟨d1, h4, h5⟩ := hf f (by simp)
      refine ⟨by omega, d1 ++ ds, ?_, d1, ds, rfl, ?_, h5, h3⟩
      · have e : (cs.drop k).take (m - k) = (cs.drop f.offset).take (P.cellsOf f.type) ++ (cs.drop (k + P.cellsOf f.type)).take (m - (k + P.cellsOf f.type)) := by
          rw [hk, ← List.drop_drop, show m - k = P.cellsOf f.type + (m - (k + P.cellsOf f.type)) by omega, List.take_add, List.drop_drop]
        rw [e]
        exact h4.append h2
      · rw [h4.1, List.length_take, List.length_drop]; omega
    · simp at ho

theorem str_size {s : ByteArray} : s.data.toList.length = s.size := by rw [Array.length_toList]; rfl

theorem open_cells : ∀ (n : Nat) (t : TypeId) (fuel : Nat) (cs : List Value) (x : DataW H × List MemPlace), plainT P n t = true → DataW.trod enc P W 0 (fun _ => true) true fuel t cs = some x →
    ∃ ds, CRel W ds cs ∧ TyD P n t ds
  | 0, t, _, _, _, hp, _ => by exact absurd hp (by unfold plainT; decide)
  | n + 1, t, 0, _, _, _, h => by simp [DataW.trod] at h
  | n + 1, t, fuel + 1, cs, x, hp, h => by
    simp only [plainT] at hp
    simp only [TyD]
    cases hu : P.underlying t with
    | none => rw [hu] at hp; simp at hp
    | some u =>
      rw [hu] at hp
      cases u with
      | bool =>
        unfold DataW.trod at h
        rw [hu] at h
        split at h <;> try (simp_all; done)
        rename_i b _
        exact ⟨[.bool b], .one (.bool b), b, rfl⟩
      | int k =>
        unfold DataW.trod at h
        rw [hu] at h
        split at h <;> try (simp_all; done)
        rename_i k1 k' m heq
        cases heq
        split at h
        · rename_i hw
          obtain ⟨rfl, hw⟩ := hw
          exact ⟨[.int k' m], .one (.int _ _), m, rfl, hw⟩
        · simp at h
      | float k =>
        cases k with
        | f64 =>
          unfold DataW.trod at h
          rw [hu] at h
          split at h <;> try (simp_all; done)
          rename_i k1 k' m heq
          cases heq
          split at h
          · rename_i hw
            obtain ⟨rfl, hw⟩ := hw
            exact ⟨[.flt m], .one (.flt _), m, rfl, hw⟩
          · simp at h
        | _ => simp at hp
      | string =>
        unfold DataW.trod at h
        rw [hu] at h
        split at h <;> try (simp_all; done)
        rename_i s _
        split at h
        · rename_i hw
          exact ⟨[.str s.data.toList], .one (.str _ _ rfl), s.data.toList, rfl, by rw [str_size]; exact hw⟩
        · simp at h
      | slice e =>
        simp only [Bool.and_eq_true, decide_eq_true_eq] at hp ⊢
        obtain ⟨hsz, hp⟩ := hp
        rcases open_slice hu h with ⟨rfl, -⟩ | ⟨a, len, cap, m, q, D, Pl, rfl, -, hl, hc, hm, -, hx⟩
        · exact ⟨[.fz []], .one (.fz0 _ _ (fun _ => rfl)), [], rfl, by simp, by simp⟩
        · rcases Nat.eq_zero_or_pos len with h0 | h0
          · subst h0; exact ⟨[.fz []], .one (.fz0 _ _ (fun h => by simp at h)), [], rfl, by simp, by simp⟩
          · simp only [if_true] at hm
            subst hm
            have hx' : ∀ i, i < len → ∃ p : List VL.D × List Value, W.cells? 0 (a.add (i * P.cellsOf e)) (P.cellsOf e) = some p.2 ∧ CRel W p.1 p.2 ∧ TyD P n e p.1 := by
              intro i hi
              obtain ⟨cs', h1, h2⟩ := hx i (by omega)
              obtain ⟨ds, h3, h4⟩ := open_cells n e q cs' _ hp h2
              exact ⟨(ds, cs'), h1, h3, h4⟩
            obtain ⟨F, hF⟩ := choose_lt hx'
            obtain ⟨b, off, spot⟩ := a
            have hspot : spot = none := by
              obtain ⟨h1, h2, -⟩ := hF 0 h0
              obtain ⟨-, h3, h4⟩ := World.cells?_some h1
              have h5 := h4 0 hsz
              rw [List.getElem?_eq_getElem (by omega)] at h5
              simpa [Addr.add] using World.cell?_spot h5
            subst hspot
            have hcell : ∀ i j, i < len → j < P.cellsOf e → cellAt W b (off + i * P.cellsOf e + j) = some ((F i).2.getD j undef) ∧ (F i).2[j]? = some ((F i).2.getD j undef) := by
              intro i j hi hj
              obtain ⟨h1, h2, -⟩ := hF i hi
              obtain ⟨-, h3, h4⟩ := World.cells?_some h1
              have h5 := h4 j hj
              have h6 : (F i).2[j]? = some ((F i).2.getD j undef) := by rw [List.getD, List.getElem?_eq_getElem (by omega)]; rfl
              refine ⟨?_, h6⟩
              rw [h6] at h5
              have : (Addr.add ⟨b, off, none⟩ (i * P.cellsOf e)).add j = ⟨b, off + i * P.cellsOf e + j, none⟩ := by
                unfold Addr.add; split <;> split <;> simp_all
              rw [this] at h5
              exact h5
            have hb : b < W.heap.size := by
              refine Nat.lt_of_not_le fun hn => ?_
              have := (hcell 0 0 h0 hsz).1
              simp [cellAt, World.cell?, Array.getElem?_eq_none hn] at this
            have hlen : ((List.range len).map fun i => (F i).1).length = len := by simp
            refine ⟨[.fz ((List.range len).map fun i => (F i).1)], .one ?_, _, rfl, by simp; omega, fun c hc' => ?_⟩
            · have := DRel.fz (w := W) (Z := fun b => b < W.heap.size) ((List.range len).map fun i => (F i).1) b off m (P.cellsOf e) (fun i j => (F i).2.getD j undef) (by rw [hlen]; exact hl)
                (fun c hc' => by
                  obtain ⟨i, hi, rfl⟩ := List.mem_map.1 hc'
                  obtain ⟨h1, h2, -⟩ := hF i (by simpa using hi)
                  rw [h2.1, (World.cells?_some h1).2.1]) hb
                (fun i j hi hj => by
                  rw [hlen] at hi
                  obtain ⟨h1, h2, -⟩ := hF i hi
                  obtain ⟨h3, h4⟩ := hcell i j hi hj
                  refine ⟨h3, ?_⟩
                  have hl1 := h2.1
                  have hl2 := (World.cells?_some h1).2.1
                  exact (h2.2 j _ _ (List.getElem?_eq_getElem (by omega)) h4).2)
                (fun i j c x hi hj => by
                  rw [List.getElem?_map] at hi
                  rcases Nat.lt_or_ge i len with h1 | h1
                  · rw [List.getElem?_range h1] at hi
                    simp only [Option.map_some, Option.some.injEq] at hi
                    subst hi
                    obtain ⟨h2, h3, -⟩ := hF i h1
                    have hl1 := h3.1
                    have hl2 := (World.cells?_some h2).2.1
                    have hj' := get_lt hj
                    exact (h3.2 j _ _ hj (hcell i j h1 (by omega)).2).1
                  · rw [List.getElem?_eq_none (by simpa using h1)] at hi; simp at hi)
              rw [hlen] at this
              exact this
            · obtain ⟨i, hi, rfl⟩ := List.mem_map.1 hc'
              obtain ⟨h1, h2, h3⟩ := hF i (by simpa using hi)
              exact ⟨by rw [h2.1, (World.cells?_some h1).2.1], h3⟩
      | struct fs =>
        simp only [Bool.and_eq_true, beq_iff_eq, List.all_eq_true] at hp ⊢
        obtain ⟨ho, hp⟩ := hp
        obtain ⟨xs, q, -, -, hl, hxs, hf⟩ := DataW.trod_struct hu h
        obtain ⟨-, ds, h1, h2⟩ := open_fields (W := W) (T := TyD P n) (cs := cs) fs.toList 0 _ ho (fun f hf' => by
          obtain ⟨i, hi⟩ := List.mem_iff_getElem?.1 hf'
          have hi' : fs[i]? = some f := by simpa using hi
          have h3 := hf i f hi'
          have hlt : i < xs.length := by rw [hxs]; exact (Array.getElem?_eq_some_iff.1 hi').1
          rw [List.getElem?_eq_getElem hlt] at h3
          exact open_cells n f.type q _ _ (hp f hf') h3) (by omega)
        refine ⟨ds, ?_, h2⟩
        have : (cs.drop 0).take (P.cellsOf t - 0) = cs := by rw [List.drop_zero, Nat.sub_zero, ← hl, List.take_length]
        rwa [this] at h1
      | _ => simp at hp
end
end Go.VL
namespace Go.VL
open Go Go.RowKit Go.ChangeShapes

/-- An argument, out of its cells. -/
def argD (P : Program) (t : TypeId) (ds : List VL.D) : VL.D :=
  match P.underlying t with
  | some (.struct _) => .agg ds
  | _ => ds.headD .nilp

/-- Arguments of given types. -/
def TyArgs (P : Program) (n : Nat) : List TypeId → List VL.D → Prop
  | [], ds => ds = []
  | t :: ts, ds => ∃ c rest, ds = argD P t c :: rest ∧ TyD P n t c ∧ TyArgs P n ts rest

section
variable {H : Type} {enc : TypeId × Value → H} {P : Program} {W : World}

theorem cells_one {v : Value} {t : TypeId} {r : Reach} {b : Nat} (hok : Value.okWide P W r b t v) 
    (hc : ∀ u, P.underlying t = some u → (u = .bool ∨ u = .string ∨ (∃ k, u = .int k) ∨ (∃ k, u = .float k) ∨ ∃ e, u = .slice e)) : v.cells.toList = [v] := by
  unfold Value.okWide at hok
  cases hu : P.underlying t with
  | none => rw [hu] at hok; simp only at hok; unfold Cell.okWide Cell.ok at hok; rw [hu] at hok; cases v <;> simp_all
  | some u =>
    rw [hu] at hok
    rcases hc u hu with rfl | rfl | ⟨k, rfl⟩ | ⟨k, rfl⟩ | ⟨e, rfl⟩ <;> (simp only at hok; unfold Cell.okWide Cell.ok at hok; rw [hu] at hok; cases v <;> simp_all [Value.cells])

theorem open_arg {n : Nat} {t : TypeId} {v : Value} {d : DataW H} {p : List MemPlace} {r : Reach} {b : Nat} (hp : plainT P n t = true) (hok : Value.okWide P W r b t v) (h : DataW.Trod enc P W 0 (fun _ => true) true t v d p) :
    ∃ c, TyD P n t c ∧ DRel W (fun b => b < W.heap.size) (argD P t c) v := by
  obtain ⟨fuel, hf⟩ := h
  obtain ⟨c, h1, h2⟩ := open_cells n t fuel _ _ hp hf
  refine ⟨c, h2, ?_⟩
  cases n with
  | zero => exact absurd hp (by unfold plainT; decide)
  | succ n =>
  simp only [plainT] at hp
  by_cases hst : ∃ fs, P.underlying t = some (.struct fs)
  · obtain ⟨fs, hu⟩ := hst
    unfold Value.okWide at hok
    rw [hu] at hok
    obtain ⟨cs, rfl, -, -⟩ := hok
    unfold argD
    rw [hu]
    have h1' : CRel W c cs.toList := h1
    have := DRel.agg (w := W) (Z := fun b => b < W.heap.size) c cs.toList h1'.1 (fun j x v hx hv => (h1'.2 j x v hx hv).1)
    simpa using this
  · have hv : v.cells.toList = [v] := by
      refine cells_one hok (fun u hu => ?_)
      · rw [hu] at hp
        cases u <;> first | (simp at hp; done) | simp
        exact hst ⟨_, hu⟩
    rw [hv] at h1
    have hl := h1.1
    match c, hl with
    | [x], _ =>
      have : argD P t [x] = x := by
        unfold argD
        split
        · rename_i fs hu; exact absurd ⟨fs, hu⟩ hst
        · rfl
      rw [this]
      exact (h1.2 0 x v rfl rfl).1

theorem open_args {n : Nat} {r : Reach} {b : Nat} : ∀ {ts : List TypeId} {vs : List Value} {ds : List (DataW H)} {p : List MemPlace}, ts.all (plainT P n) = true →
    (∀ (j : Nat) t v, ts[j]? = some t → vs[j]? = some v → Value.okWide P W r b t v) → DataW.TrodAll enc P W 0 (fun _ => true) true ts vs ds p →
    ∃ xs, TyArgs P n ts xs ∧ DRelL W (fun b => b < W.heap.size) xs vs
  | [], vs, ds, p, _, _, h => by
    obtain ⟨rfl, rfl, rfl⟩ := trodAll_nil h
    exact ⟨[], rfl, rfl, by simp⟩
  | t :: ts, vs, ds, p, hp, hok, h => by
    obtain ⟨v, vs1, d, ds1, a, q, rfl, rfl, rfl, h1, h2⟩ := trodAll_cons h
    simp only [List.all_cons, Bool.and_eq_true] at hp
    obtain ⟨c, h3, h4⟩ := open_arg hp.1 (hok 0 t v rfl rfl) h1
    obtain ⟨xs, h5, h6⟩ := open_args hp.2 (fun j t v hj hv => hok (j + 1) t v (by simpa using hj) (by simpa using hv)) h2
    refine ⟨argD P t c :: xs, ⟨c, xs, rfl, h3, h5⟩, by simp [h6.1], fun j x u hx hu => ?_⟩
    cases j with
    | zero => simp at hx hu; subst hx; subst hu; exact h4
    | succ j => exact h6.2 j x u (by simpa using hx) (by simpa using hu)

theorem trod_len : ∀ {ts : List TypeId} {vs : List Value} {ds : List (DataW H)} {p : List MemPlace}, DataW.TrodAll enc P W 0 (fun _ => true) true ts vs ds p → ds.length = ts.length
  | [], vs, ds, p, h => by obtain ⟨rfl, rfl, rfl⟩ := trodAll_nil h; rfl
  | t :: ts, vs, ds, p, h => by
    obtain ⟨v, vs1, d, ds1, a, q, rfl, rfl, rfl, h1, h2⟩ := trodAll_cons h
    simp [trod_len h2]

theorem below_of_wr {β : Bt} {w' : World} (h : WR (base0 W (fun b => b < W.heap.size)) β [] w') : Below W.heap.size W w' :=
  ⟨h.rest.2.1, h.rest.1, h.rest.2.2, h.size, fun k hk => h.keep k hk (by rintro ⟨id, o, p, h1, -⟩; simp [base0] at h1)⟩

theorem trodAll_below (hl : laidOutB P = true) {W' : World} (hb : Below W.heap.size W W') : ∀ {ts : List TypeId} {vs : List Value} {ds : List (DataW H)} {p : List MemPlace}, (∀ t ∈ ts, P.readableRec t = true ∧ t < P.types.size) →
    (∀ x ∈ p, x.block < W.heap.size) → DataW.TrodAll enc P W 0 (fun _ => true) true ts vs ds p → DataW.TrodAll enc P W' 0 (fun b => decide (b < W.heap.size)) true ts vs ds p
  | [], vs, ds, p, _, _, h => by
    obtain ⟨rfl, rfl, rfl⟩ := trodAll_nil h
    rfl
  | t :: ts, vs, ds, p, ht, hlt, h => by
    obtain ⟨v, vs1, d, ds1, a, q, rfl, rfl, rfl, h1, h2⟩ := trodAll_cons h
    exact ⟨a, q, Below.trod hl (ht t (by simp)).1 (ht t (by simp)).2 h1 hb (fun x hx => hlt x (by simp [hx])), trodAll_below hl hb (fun u hu => ht u (by simp [hu])) (fun x hx => hlt x (by simp [hx])) h2, rfl⟩

/-- What a law owes: true, over all arguments of its types. -/
theorem law_true {f : FuncId} {fn : Func} {c : Code} {s : ChangeSpec} {n : Nat} {tb : TypeId} {base : Nat} {args : Array Value} {ds gs : List (DataW H)} {before : List MemPlace} {apart handsOn : Bool}
    (hf : P.funcs[f]? = some fn) (hbody : fn.body = some c) (hname : (fn.name == "runtime.NumGoroutine") = false) (hl : laidOutB P = true)
    (hpar : fn.params.toList.all (fun t => P.readableRec t && decide (t < P.types.size) && plainT P n t) = true) (hres : fn.resultTypes = #[tb]) (hb : P.underlying tb = some .bool) (hvars : s.vars = [])
    (hs : ∀ ds : List (DataW H), ds.length = fn.params.size → s.fn H ds = { results := [.lit (.bool true)], args := ds, vars := [] })
    (law : ∀ xs, TyArgs P n fn.params.toList xs → PFun P f xs (.ret [.d (.bool true)]))
    (hval : ∀ (j : Nat) t v, fn.params[j]? = some t → args[j]? = some v → Value.okWide P W .any base t v)
    (hW : DataW.Whole enc P fn.params.toList s.vars apart W args.toList ds gs before) :
    Calls P f args W fun e W' => ∃ v, e = .returned v ∧ s.post enc P fn apart true handsOn false W args v W' := by
  have hW' := hW
  obtain ⟨p, q, hA, hV, rfl, -, -⟩ := hW
  rw [hvars] at hV
  have hgs : gs = [] ∧ q = [] := by
    cases gs with
    | nil => exact ⟨rfl, hV⟩
    | cons g gs => exact hV.elim
  obtain ⟨rfl, rfl⟩ := hgs
  have hpar' : ∀ t ∈ fn.params.toList, (P.readableRec t = true ∧ t < P.types.size) ∧ plainT P n t = true := by
    intro t ht
    have := List.all_eq_true.1 hpar t ht
    simpa [Bool.and_eq_true] using this
  obtain ⟨xs, hT, hR⟩ := open_args (List.all_eq_true.2 fun t ht => (hpar' t ht).2) (fun j t v hj hv => hval j t v (by simpa using hj) (by simpa using hv)) hA
  have hcall := law xs hT W args.toList (fun b => b < W.heap.size) (fun _ h => h) hR
  have hname' : ¬ fn.name = "runtime.NumGoroutine" := by simpa using hname
  rcases hcall with ⟨-, hcall⟩ | ⟨v, w', hrun, -⟩
  · have e : args.toList.toArray = args := by simp
    rw [e] at hcall
    refine hcall.mono ?_
    rintro e W' ⟨β, v, rfl, hwr, hv⟩
    have hbel := below_of_wr hwr
    have hv' : v = .bool true := by
      cases hv with
      | d _ _ hd => cases hd; rfl
    subst hv'
    refine ⟨_, rfl, ds, [], p ++ [], [], p, [], hW', ?_, ?_, ?_, hbel.frame _, fun h => by cases h⟩
    · rw [List.append_nil, hs ds (by have := trod_len hA; simpa using this), hres]
      exact ⟨[], [], ⟨1, by simp [DataW.trod, hb, Value.cells]⟩, rfl, rfl⟩
    · rw [List.append_nil, hs ds (by have := trod_len hA; simpa using this)]
      exact trodAll_below hl hbel (fun t ht => (hpar' t ht).1) (fun x hx => by simpa using hW'.lt x (by simpa using hx)) hA
    · rw [List.append_nil, hs ds (by have := trod_len hA; simpa using this), hvars]
      rfl
  · exfalso
    simp [callFunc, hf, hname', hbody] at hrun
end
end Go.VL
namespace Go.VL
open Go
attribute [simp] vwp_skip vwp_label vwp_seq vwp_region vwp_draw vwp_cond vwp_block vwp_exit vwp_ret Then_normal Then_exit Then_ret Then_panic Blk_normal Blk_exit Blk_ret Blk_panic ob_some ob_none ob_ite map_ite
  vops_nil vops_cons vops_guard StepK_eq CondK_eq GuardK_eq PanK_eq FnK_eq DeferK_eq CallK_ret CallK_pan BodyK_normal BodyK_ret BodyK_panic vleaves_none vleaves_some vleaves_cons ResK_eq upd_same upd_ne env0_eq putV_some putV_none
  veval_tmp veval_int veval_bool veval_flt veval_str veval_nilp veval_nil veval_nilf veval_nili veval_agg veval_func vstep vop vbin vflt vint boolOf vres
  drawH_eq vdr_nil vdr_cons vguard_none vguard_some vdo_true vdo_false ReadK_eq PendK_nil PendK_cons WipeK_panic WipeK_normal CatchK_normal CatchK_ret
  vun vload vcells vfieldAddr vindexAddr vlen vbuiltin vstore vput vnil nilness nilPtr recV isConstO vassert guardV fnOf isIfc toD0 PV.plain PV.cells PV.one vconvert vbuild vzero vmake
  Ob.gen Ob.alive Ob.live retV List.lookup
end Go.VL
namespace Go.VL
open Go

theorem okV_le {n n' : Nat} (h : n ≤ n') : ∀ {k : Nat} {x : PV}, okV n k x = true → okV n' k x = true
  | 0, x, hx => by simp [okV] at hx
  | k + 1, .any, _ => rfl
  | k + 1, .d _, _ => rfl
  | k + 1, .nil, _ => rfl
  | k + 1, .nz, _ => rfl
  | k + 1, .sl id _ _ _, hx => by simp only [okV, decide_eq_true_eq] at hx ⊢; omega
  | k + 1, .ptr id _ _ _, hx => by simp only [okV, decide_eq_true_eq] at hx ⊢; omega
  | k + 1, .agg c, hx => by
    simp only [okV, List.all_eq_true] at hx ⊢
    exact fun y hy => okV_le h (hx y hy)
  | k + 1, .tup c, hx => by
    simp only [okV, List.all_eq_true] at hx ⊢
    exact fun y hy => okV_le h (hx y hy)
  | k + 1, .fn _ a b, hx => by
    simp only [okV, Bool.and_eq_true, List.all_eq_true] at hx ⊢
    exact ⟨fun y hy => okV_le h (hx.1 y hy), fun y hy => okV_le h (hx.2 y hy)⟩

theorem okOb_le {n n' : Nat} (h : n ≤ n') {o : Ob} (ho : okOb n o = true) : okOb n' o = true := by
  cases o with
  | box lv g c =>
    simp only [okOb, List.all_eq_true] at ho ⊢
    exact fun y hy => okV_le h (ho y hy)
  | _ => rfl

/-- All that a store holds speaks of the store. -/
def Fine (σ : St) : Prop := σ.all (okOb σ.length) = true

theorem Fine.app {σ : St} {o : Ob} (h : Fine σ) (ho : okOb (σ.length + 1) o = true) : Fine (σ ++ [o]) := by
  unfold Fine at h ⊢
  rw [List.all_eq_true] at h ⊢
  intro x hx
  rw [List.length_append, List.length_singleton]
  rcases List.mem_append.1 hx with h1 | h1
  · exact okOb_le (by omega) (h x h1)
  · simp at h1; subst h1; exact ho

theorem Fine.set {σ : St} {i : Nat} {o : Ob} (h : Fine σ) (ho : okOb σ.length o = true) : Fine (σ.set i o) := by
  unfold Fine at h ⊢
  rw [List.all_eq_true] at h ⊢
  intro x hx
  rw [List.length_set]
  rcases List.mem_or_eq_of_mem_set hx with h1 | rfl
  · exact h x h1
  · exact ho

theorem Fine.nil : Fine [] := rfl

/-- The end of a body: the garbage behind the first n objects goes. -/
theorem FinR.good {m : Nat} {R : VO → St → Prop} {rs : List PV} {σ σ' : St} (h : σ'.take σ.length = σ) (hm : m ≤ σ.length) (hg : Fine σ) (h2 : okV σ.length 5 (retV rs) = true) (h3 : R (.ret (retV rs)) σ) : FinR m R rs σ' :=
  ⟨σ.length, hm, by rw [h]; exact hg, h2, by rw [h]; exact h3⟩
theorem FinP.good {m : Nat} {R : VO → St → Prop} {x : VL.D} {σ σ' : St} (h : σ'.take σ.length = σ) (hm : m ≤ σ.length) (hg : Fine σ) (h3 : R (.pan x) σ) : FinP m R x σ' :=
  ⟨σ.length, hm, by rw [h]; exact hg, by rw [h]; exact h3⟩

theorem wrap_i64 {n : Int} (h : -9223372036854775808 ≤ n) (h' : n ≤ 9223372036854775807) : IntKind.i64.wrap n = n := by
  simp only [IntKind.wrap, IntKind.bits, IntKind.signed]
  simp
  omega

theorem closeL_nil {σ : St} : closeL σ [] = some [] := (rfl)
theorem closeL_d {σ : St} {x : VL.D} {l : List PV} : closeL σ (.d x :: l) = (closeL σ l).map (x :: ·) := by
  unfold closeL
  rw [List.mapM_cons]
  simp [toD]
  cases l.mapM (toD σ 5) <;> rfl
theorem idsL_nil {σ : St} : idsL σ [] = [] := (rfl)
theorem idsL_d {σ : St} {x : VL.D} {l : List PV} : idsL σ (.d x :: l) = idsL σ l := by
  unfold idsL
  rw [List.flatMap_cons]
  simp [ids]
theorem frzL_nil {σ : St} : frzL σ [] = σ := (rfl)
theorem frzL_d {σ : St} {x : VL.D} {l : List PV} : frzL σ (.d x :: l) = frzL σ l := by
  unfold frzL
  rw [idsL_d]
attribute [simp] closeL_nil closeL_d idsL_nil idsL_d frzL_nil frzL_d spl
end Go.VL
