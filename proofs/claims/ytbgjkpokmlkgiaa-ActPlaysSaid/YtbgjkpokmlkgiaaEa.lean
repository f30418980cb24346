/- E-logic, part A: an evaluator of the code over stores. It works out what a function comes to; that it is right is shown behind it. -/
import Derived.Test.YtbgjkpokmlkgiaaVd
namespace Go.VL
open Go

abbrev Res := Option (VX × VS)
/-- What calls come to, deferred calls, and how loops go. -/
structure Ora where
  f : FuncId → List PV → St → Option (VO × St)
  d : DV → St → Option D → Option (Option D × St)
  lp : (VS → Option VS) → (VS → Res) → VS → Res

/-- Hints: orders of drawn regions; of each loop (by its first region) the variables that live, with the sizes of elements where a nil there is an own row; which arguments stay own; which results stay own; functions without a body; functions that ask whether their one argument, a slice, is nil. -/
structure Hints where
  has : FuncId → Bool
  tbl : FuncId → Tbl
  live : FuncId → List (Nat × List (Tmp × List (Option Nat)))
  own : FuncId → List Nat
  keep : FuncId → Option (List (List (Option Nat)))
  ext : FuncId → Option (List PV → Option PV)
  nilq : FuncId → Bool

/-! Equal values -/
def fnEq (a b : Fn) : Bool := decide (a = b)
mutual
def D.beq : D → D → Bool
  | .bool a, .bool b => a == b
  | .int k n, .int k' n' => decide (k = k') && decide (n = n')
  | .flt a, .flt b => a == b
  | .str a, .str b => decide (a = b)
  | .fz a, .fz b => D.beqLL a b
  | .nilp, .nilp => true
  | .fp a, .fp b => D.beqL a b
  | .agg a, .agg b => D.beqL a b
  | .fn f a b, .fn f' a' b' => fnEq f f' && D.beqL a a' && D.beqL b b'
  | .nilf, .nilf => true
  | .ifc t x, .ifc t' x' => t == t' && D.beq x x'
  | .nili, .nili => true
  | _, _ => false
def D.beqL : List D → List D → Bool
  | [], [] => true
  | a :: l, b :: l' => D.beq a b && D.beqL l l'
  | _, _ => false
def D.beqLL : List (List D) → List (List D) → Bool
  | [], [] => true
  | a :: l, b :: l' => D.beqL a b && D.beqLL l l'
  | _, _ => false
end
mutual
def PV.beq : PV → PV → Bool
  | .any, .any => true
  | .d a, .d b => D.beq a b
  | .nil, .nil => true
  | .nz, .nz => true
  | .sl a b c e, .sl a' b' c' e' => decide (a = a') && decide (b = b') && decide (c = c') && decide (e = e')
  | .ptr a b c e, .ptr a' b' c' e' => decide (a = a') && decide (b = b') && decide (c = c') && decide (e = e')
  | .agg a, .agg b => PV.beqL a b
  | .tup a, .tup b => PV.beqL a b
  | .fn f a b, .fn f' a' b' => fnEq f f' && PV.beqL a a' && PV.beqL b b'
  | _, _ => false
def PV.beqL : List PV → List PV → Bool
  | [], [] => true
  | a :: l, b :: l' => PV.beq a b && PV.beqL l l'
  | _, _ => false
end

/-! Code -/
def thenX (r : Res) (k : VS → Res) : Res := match r with
  | some (.normal, s) => k s
  | r => r
def blkX (id : Nat) (r : Res) : Res := match r with
  | some (.exit i, s) => if i = id then some (.normal, s) else some (.exit i, s)
  | r => r
def callX (dst : Option Tmp) (s : VS) : Option (VO × St) → Res
  | some (.ret x, σ') => some (.normal, ⟨putV s.env dst x, s.df, σ'⟩)
  | some (.pan x, σ') => some (.panic x, ⟨s.env, s.df, σ'⟩)
  | none => none
def stepX (dst : Option Tmp) (s : VS) : Option (PV × St) → Res
  | some (x, σ') => some (.normal, ⟨putV s.env dst x, s.df, σ'⟩)
  | none => none
def panX (s : VS) : Option D → Res
  | some x => some (.panic x, s)
  | none => none
def deferX (dst : Option Tmp) (s : VS) (args : List PV) : Option (FuncId × List PV × List PV) → Res
  | some (g, a, b) => some (.normal, ⟨putV s.env dst .any, ⟨g, b, a ++ args⟩ :: s.df, s.σ⟩)
  | none => none

/-! The objects that values speak of -/
def vrefs (σ : St) : Nat → PV → List Nat
  | 0, _ => []
  | _ + 1, .sl id g _ _ => match σ[id]? with
    | some o => if o.gen = g ∧ o.alive = true then [id] else []
    | none => []
  | _ + 1, .ptr id g _ _ => match σ[id]? with
    | some o => if o.gen = g ∧ o.alive = true then [id] else []
    | none => []
  | k + 1, .agg c => c.flatMap (vrefs σ k)
  | k + 1, .tup c => c.flatMap (vrefs σ k)
  | k + 1, .fn _ a b => a.flatMap (vrefs σ k) ++ b.flatMap (vrefs σ k)
  | _, _ => []
def obRefs (σ : St) : Option Ob → List Nat
  | some (.box _ _ c) => c.flatMap (vrefs σ 4)
  | _ => []
def addNew (m : Nat) : List Nat → List Nat → List Nat
  | acc, [] => acc
  | acc, i :: l => if m ≤ i ∧ i ∉ acc then addNew m (acc ++ [i]) l else addNew m acc l
def closeR (σ : St) (m : Nat) : Nat → List Nat → List Nat
  | 0, acc => acc
  | k + 1, acc => closeR σ m k (addNew m acc (acc.flatMap fun i => obRefs σ σ[i]?))
def reach (σ : St) (m : Nat) (xs : List PV) : List Nat :=
  closeR σ m 3 (addNew m [] (((σ.take m).flatMap fun o => obRefs σ (some o)) ++ xs.flatMap (vrefs σ 5)))

/-- Values, told of other objects. -/
def ren (f : Nat → Nat → Option (Nat × Nat)) : Nat → PV → PV
  | 0, _ => .any
  | _ + 1, .any => .any
  | _ + 1, .d x => .d x
  | _ + 1, .nil => .nil
  | _ + 1, .nz => .nz
  | _ + 1, .sl id g s n => match f id g with
    | some (i, g') => .sl i g' s n
    | none => .any
  | _ + 1, .ptr id g i off => match f id g with
    | some (j, g') => .ptr j g' i off
    | none => .any
  | k + 1, .agg c => .agg (c.map (ren f k))
  | k + 1, .tup c => .tup (c.map (ren f k))
  | k + 1, .fn h a b => .fn h (a.map (ren f k)) (b.map (ren f k))
def renOb (f : Nat → Nat → Option (Nat × Nat)) (g' : Nat) : Ob → Ob
  | .arr lv _ sz es => .arr lv g' sz es
  | .box lv _ c => .box lv g' (c.map (ren f 4))
  | .dead _ => .dead g'

def posOf (id : Nat) : List Nat → Nat → Option Nat
  | [], _ => none
  | a :: l, k => if a = id then some k else posOf id l (k + 1)
/-- Objects from m on get new numbers; what is stale is told no more. -/
def toNew (σ : St) (m : Nat) (ids : List Nat) (id g : Nat) : Option (Nat × Nat) :=
  if id < m then some (id, g) else match posOf id ids 0, σ[id]? with
    | some k, some o => if o.gen = g then some (m + k, 0) else none
    | _, _ => none
def getOb (σ : St) (id : Nat) : Ob := (σ[id]?).getD (.dead 0)
def canonSt (σ : St) (m : Nat) (ids : List Nat) : St :=
  (σ.take m).map (fun o => renOb (toNew σ m ids) o.gen o) ++ ids.map fun i => renOb (toNew σ m ids) 0 (getOb σ i)
def canon (σ : St) (m : Nat) (xs : List PV) : List PV × St :=
  (xs.map (ren (toNew σ m (reach σ m xs)) 5), canonSt σ m (reach σ m xs))

/-- A nil becomes an own row that is empty. -/
def matV (σ : St) : PV → List (Option Nat) → PV × St
  | .nil, [some sz] => (.sl σ.length 0 0 0, σ ++ [.arr true 0 sz []])
  | x, _ => (x, σ)
def matC : List PV → List (Option Nat) → St → List PV × St
  | .nil :: c, some sz :: h, σ => let r := matC c h (σ ++ [.arr true 0 sz []]); (.sl σ.length 0 0 0 :: r.1, r.2)
  | x :: c, _ :: h, σ => let r := matC c h σ; (x :: r.1, r.2)
  | c, _, σ => (c, σ)
def mat1 (σ : St) (x : PV) (h : List (Option Nat)) : PV × St :=
  match h with
  | [] => (x, σ)
  | _ => match x with
    | .ptr id g 0 0 => match σ[id]? with
      | some (.box true g' c) => if g' = g then (x, (matC c h σ).2.set id (.box true g (matC c h σ).1)) else (x, σ)
      | _ => (x, σ)
    | x => matV σ x h
def mats (σ : St) : List PV → List (List (Option Nat)) → List PV × St
  | x :: xs, h :: hs => let r := mat1 σ x h; let q := mats r.2 xs hs; (r.1 :: q.1, q.2)
  | xs, _ => (xs, σ)

def mkE (l : List (Tmp × PV)) : Env := fun t => (l.lookup t).getD .any
def flatDf (l : List DV) : List PV := l.flatMap fun x => x.captured ++ x.args
def unflatDf : List DV → List PV → List DV
  | [], _ => []
  | x :: l, vs => ⟨x.f, vs.take x.captured.length, (vs.drop x.captured.length).take x.args.length⟩ :: unflatDf l (vs.drop (x.captured.length + x.args.length))
/-- A loop's head: the variables that live, the objects that these speak of. -/
def canonS (m : Nat) (lv : List (Tmp × List (Option Nat))) (s : VS) : Option VS :=
  let a := mats s.σ (lv.map fun t => s.env t.1) (lv.map (·.2))
  let r := canon a.2 m (a.1 ++ flatDf s.df)
  some ⟨mkE ((lv.map (·.1)).zip r.1), unflatDf s.df (r.1.drop lv.length), r.2⟩

/-! Calls -/
def flatV : Nat → PV → Bool
  | 0, _ => false
  | _ + 1, .d x => VL.flat 4 x
  | _ + 1, .nil => true
  | _ + 1, .nz => true
  | _ + 1, .sl _ _ _ _ => true
  | k + 1, .agg c => c.all (flatV k)
  | k + 1, .tup c => c.all (flatV k)
  | _, _ => false
def flatOb : Ob → Bool
  | .arr _ _ _ es => es.all fun e => e.all (VL.flat 4)
  | _ => false
def flatO : VO → St → Bool
  | .ret x, τ => flatV 5 x && τ.all flatOb
  | .pan x, τ => VL.flat 4 x && τ.all flatOb

/-- Which arguments are told as data. -/
def closeA (σ : St) (own : List Nat) : Nat → List PV → Option (List PV)
  | _, [] => some []
  | k, x :: l => match x with
    | .ptr _ _ _ _ => (closeA σ own (k + 1) l).map fun r => x :: r
    | _ => if k ∈ own then (closeA σ own (k + 1) l).map fun r => x :: r else match toD σ 5 x with
      | some y => (closeA σ own (k + 1) l).map fun r => .d y :: r
      | none => none
def closedA (own : List Nat) : Nat → List PV → List PV
  | _, [] => []
  | k, x :: l => match x with
    | .ptr _ _ _ _ => closedA own (k + 1) l
    | _ => if k ∈ own then closedA own (k + 1) l else x :: closedA own (k + 1) l

/-- The callee's objects, in the caller's store. -/
def toOld (σ : St) (ids : List Nat) (k g : Nat) : Option (Nat × Nat) :=
  match ids[k]? with
  | some id => some (id, (getOb σ id).gen + g)
  | none => some (σ.length + (k - ids.length), g)
def putB (σ : St) (ids : List Nat) : List Nat → St → St → St
  | i :: l, o :: τ, acc => putB σ ids l τ (acc.set i (renOb (toOld σ ids) ((getOb σ i).gen + o.gen) o))
  | [], τ, acc => acc ++ τ.map fun o => renOb (toOld σ ids) o.gen o
  | _ :: _, [], acc => acc
def backV (σ : St) (ids : List Nat) : VO → VO
  | .ret x => .ret (ren (toOld σ ids) 5 x)
  | .pan x => .pan x
def mergeO (σ : St) (ids : List Nat) : Option (VO × St) → Option (VO × St)
  | some (o, τ') => some (backV σ ids o, putB σ ids ids τ' σ)
  | none => none

def callB (S : Ora) (g : FuncId) (σ : St) (ys : List PV) : Option (VO × St) :=
  mergeO σ (reach σ 0 ys) (S.f g (canon σ 0 ys).1 (canon σ 0 ys).2)
/-- A call whose own arguments are none. -/
def callF (m : Nat) (σ : St) (cl : List PV) : Option (VO × St) → Option (VO × St)
  | some (o, τ') => if flatO o τ' = true then mergeO σ [] (some (o, τ')) else
      if (idsL σ cl).all (fun j => decide (m ≤ j)) = true then mergeO (frzL σ cl) [] (some (o, τ')) else none
  | none => none
def ecall2 (S : Ora) (m : Nat) (g : FuncId) (σ : St) (cl ys : List PV) : Option (VO × St) :=
  if reach σ 0 ys = [] then callF m σ cl (S.f g (canon σ 0 ys).1 (canon σ 0 ys).2)
  else if (idsL σ cl).all (fun j => decide (m ≤ j)) = true then callB S g (frzL σ cl) ys else none
def ecall1 (S : Ora) (m : Nat) (g : FuncId) (σ : St) (cl : List PV) : Option (List PV) → Option (VO × St)
  | some ys => ecall2 S m g σ cl ys
  | none => none
def ecall (H : Hints) (S : Ora) (m : Nat) (g : FuncId) (xs : List PV) (σ : St) : Option (VO × St) :=
  ecall1 S m g σ (closedA (H.own g) 0 xs) (closeA σ (H.own g) 0 xs)

def fnX (H : Hints) (S : Ora) (m : Nat) (dst : Option Tmp) (s : VS) (args : List PV) : Option (FuncId × List PV × List PV) → Res
  | some (g, a, b) => callX dst s (ecall H S m g (a ++ args ++ b) s.σ)
  | none => none

def estep (P : Program) (H : Hints) (S : Ora) (m : Nat) (o : Oper) (s : VS) : Res :=
  match o.op with
  | .panic x => panX s (isIfc (veval s.env x))
  | .defer c => match c.callee with
    | .value f => deferX o.dst s (c.args.toList.map (veval s.env)) (fnOf (veval s.env f))
    | _ => none
  | .call c => match c.callee with
    | .value f => fnX H S m o.dst s (c.args.toList.map (veval s.env)) (fnOf (veval s.env f))
    | .builtin b => stepX o.dst s (vbuiltin P s.σ b c.argTypes (c.args.toList.map (veval s.env)))
    | _ => none
  | op => stepX o.dst s (vop P m s.σ (veval s.env) op)

def eops (P : Program) (H : Hints) (S : Ora) (m : Nat) (ops : Array Oper) : List Oper → VS → Res
  | [], s => some (.normal, s)
  | o :: rest, s => match o.guard with
    | none => thenX (estep P H S m o s) (eops P H S m ops rest)
    | some (j, want) => match guardV ops s.env j with
      | none => none
      | some b => if b = some want then thenX (estep P H S m o s) (eops P H S m ops rest) else eops P H S m ops rest ⟨putV s.env o.dst (.tup []), s.df, s.σ⟩

/-! Drawn regions -/
/-- Operations that leave the store as it is. -/
def readOp : Op → Bool
  | .move _ => true
  | .assign _ => true
  | .pick _ _ _ => true
  | .build _ _ => true
  | .load _ _ => true
  | .nilCheck _ => true
  | .binOp _ _ _ _ _ => true
  | .unOp _ _ _ => true
  | .convert _ _ _ => true
  | .makeInterface _ _ => true
  | .makeFunc _ _ _ => true
  | .slice _ _ _ _ _ => true
  | .fieldAddr _ _ _ => true
  | .field _ _ _ => true
  | .indexAddr _ _ _ => true
  | .index _ _ _ => true
  | .typeAssert _ _ _ _ => true
  | .extract _ _ => true
  | .call c => match c.callee with
    | .builtin .len => true
    | .builtin .max => true
    | .builtin .min => true
    | _ => false
  | _ => false
def reSame (dst : Option Tmp) (s : VS) : Option (PV × St) → Bool
  | some (x, _) => match dst with
    | some d => PV.beq x (s.env d)
    | none => true
  | none => false
def isAny : PV → Bool
  | .tup [] => true
  | _ => false
def reNo (dst : Option Tmp) (s : VS) : Bool := match dst with
  | some d => isAny (s.env d)
  | none => true
def reChk (P : Program) (m : Nat) (ops : Array Oper) (s : VS) (p : Nat) : Bool :=
  match ops[p]? with
  | none => true
  | some o => readOp o.op && match o.guard with
    | none => reSame o.dst s (vop P m s.σ (veval s.env) o.op)
    | some (j, want) => match guardV ops s.env j with
      | none => false
      | some b => if b = some want then reSame o.dst s (vop P m s.σ (veval s.env) o.op) else reNo o.dst s
def pendX (P : Program) (m : Nat) (ops : Array Oper) (pend : List Nat) (k : VS → Res) (s : VS) : Res := if pend.all (reChk P m ops s) = true then k s else none
def wipeX (ops : Array Oper) : Res → Res
  | some (.panic x, s) => some (.panic x, ⟨wipe ops s.env, s.df, s.σ⟩)
  | r => r
def edo (P : Program) (H : Hints) (S : Ora) (m : Nat) (ops : Array Oper) (eff : Bool) (o : Oper) (pend : List Nat) (k : VS → Res) (s : VS) : Res :=
  if eff = true then thenX (wipeX ops (estep P H S m o s)) (pendX P m ops pend k)
  else if readOp o.op = true then thenX (stepX o.dst s (vop P m s.σ (veval s.env) o.op)) k else none
def edr (P : Program) (H : Hints) (S : Ora) (m : Nat) (ops : Array Oper) (E : List Nat) : List (Nat × List Nat) → VS → Res
  | [], s => some (.normal, s)
  | (i, pend) :: rest, s => match ops[i]? with
    | none => none
    | some o => match o.guard with
      | none => edo P H S m ops (E.contains i) o pend (edr P H S m ops E rest) s
      | some (j, want) => match guardV ops s.env j with
        | none => none
        | some b => if b = some want then edo P H S m ops (E.contains i) o pend (edr P H S m ops E rest) s else edr P H S m ops E rest ⟨putV s.env o.dst (.tup []), s.df, s.σ⟩

def firstReg : Code → Option Nat
  | .region id _ _ => some id
  | .seq a b => match firstReg a with
    | some i => some i
    | none => firstReg b
  | .cond _ a b => match firstReg a with
    | some i => some i
    | none => firstReg b
  | .block _ a => firstReg a
  | .loop a => firstReg a
  | _ => none
def liveOf (H : Hints) (g : FuncId) (c : Code) : List (Tmp × List (Option Nat)) :=
  match firstReg c with
  | some i => ((H.live g).lookup i).getD []
  | none => []

def condX (b : Option Bool) (x y : VS → Res) (s : VS) : Res := match b with
  | some b => if b = true then x s else y s
  | none => none
def edrT (P : Program) (H : Hints) (S : Ora) (m : Nat) (ops : Array Oper) (s : VS) : Option (List Nat × List (Nat × List Nat)) → Res
  | some (E, L) => edr P H S m ops E L s
  | none => none
def ec (P : Program) (H : Hints) (g : FuncId) (S : Ora) (m : Nat) : Code → VS → Res
  | .skip, s => some (.normal, s)
  | .label _, s => some (.normal, s)
  | .seq a b, s => thenX (ec P H g S m a s) (ec P H g S m b)
  | .region _ ops false, s => eops P H S m ops ops.toList s
  | .region id ops true, s => edrT P H S m ops s ((H.tbl g).lookup id)
  | .cond c x y, s => condX (boolOf (veval s.env c)) (ec P H g S m x) (ec P H g S m y) s
  | .block id c, s => blkX id (ec P H g S m c s)
  | .exit id, s => some (.exit id, s)
  | .ret, s => some (.ret, s)
  | .loop c, s => S.lp (canonS m (liveOf H g c)) (ec P H g S m c) s
  | _, _ => none

/-! Functions -/
def mergeD (σ : St) (ids : List Nat) : Option (Option D × St) → Option (Option D × St)
  | some (md, τ') => some (md, putB σ ids ids τ' σ)
  | none => none
/-- A deferred call. -/
def edcall (S : Ora) (d : DV) (σ : St) (md : Option D) : Option (Option D × St) :=
  mergeD σ (reach σ 0 (d.captured ++ d.args)) (S.d ⟨d.f, (canon σ 0 (d.captured ++ d.args)).1.take d.captured.length, (canon σ 0 (d.captured ++ d.args)).1.drop d.captured.length⟩ (canon σ 0 (d.captured ++ d.args)).2 md)
def leafK (k : Option D → St → Option ((List PV ⊕ D) × St)) : Option (Option D × St) → Option ((List PV ⊕ D) × St)
  | some (md, σ) => k md σ
  | none => none
def resX (σ : St) : Option (List PV) → Option ((List PV ⊕ D) × St)
  | some rs => some (.inl rs, σ)
  | none => none
def eleaves (P : Program) (S : Ora) (res : List ResultVar) (env : Env) : List DV → Option D → St → Option ((List PV ⊕ D) × St)
  | [], none, σ => resX σ (vres P env σ res)
  | [], some x, σ => some (.inr x, σ)
  | d :: ds, md, σ => leafK (eleaves P S res env ds) (edcall S d σ md)
def ebody (P : Program) (S : Ora) (res : List ResultVar) : Res → Option ((List PV ⊕ D) × St)
  | some (.normal, s) => eleaves P S res s.env s.df none s.σ
  | some (.ret, s) => eleaves P S res s.env s.df none s.σ
  | some (.panic x, s) => eleaves P S res s.env s.df (some x) s.σ
  | _ => none

/-- Results are told as data, where they speak of nothing older. -/
def dataV (σ : St) (m : Nat) (x : PV) : Option (PV × List Nat) :=
  if (ids σ 5 x).all (fun j => decide (m ≤ j)) = true then (toD σ 5 x).map fun y => (.d y, ids σ 5 x) else some (x, [])
def dataL (σ : St) (m : Nat) : List PV → Option (List PV × List Nat)
  | [] => some ([], [])
  | x :: l => match dataV σ m x, dataL σ m l with
    | some (y, a), some (r, b) => some (y :: r, a ++ b)
    | _, _ => none
def finR (m : Nat) (r : List PV × St) : Option (VO × St) := some (.ret (retV (canon r.2 m r.1).1), (canon r.2 m r.1).2)
def finD (m : Nat) (σ : St) : Option (List PV × List Nat) → Option (VO × St)
  | some (ys, l) => finR m (ys, l.foldl frz1 σ)
  | none => none
def efin (m : Nat) (keep : Option (List (List (Option Nat)))) : Option ((List PV ⊕ D) × St) → Option (VO × St)
  | some (.inl rs, σ) => match keep with
    | none => finD m σ (dataL σ m rs)
    | some hs => finR m (mats σ rs hs)
  | some (.inr x, σ) => some (.pan x, (canon σ m []).2)
  | none => none
def efn0 (P : Program) (H : Hints) (S : Ora) (g : FuncId) (args : List PV) (τ : St) : Option (VO × St) :=
  match H.ext g with
  | some e => (e args).map fun x => (.ret x, τ)
  | none => match P.funcs[g]? with
    | some fn => match fn.body with
      | some c => if H.has g = true ∧ args.length ≤ fn.ntmps then efin τ.length (H.keep g) (ebody P S fn.results.toList (ec P H g S τ.length c ⟨env0 args, [], τ⟩)) else none
      | none => none
    | none => none

def obEq : Ob → Ob → Bool
  | .arr a b c d, .arr a' b' c' d' => a == a' && b == b' && c == c' && D.beqLL d d'
  | .box a b c, .box a' b' c' => a == a' && b == b' && PV.beqL c c'
  | .dead a, .dead a' => a == a'
  | _, _ => false
def stEq : St → St → Bool
  | [], [] => true
  | a :: l, b :: l' => obEq a b && stEq l l'
  | _, _ => false
def resEq : VO × St → VO × St → Bool
  | (.ret x, σ), (.ret y, τ) => PV.beq x y && stEq σ τ
  | (.pan x, σ), (.pan y, τ) => D.beq x y && stEq σ τ
  | _, _ => false
/-- The same either way. -/
def bothX : Option (VO × St) → Option (VO × St) → Option (VO × St)
  | some r, some q => if resEq r q = true then some r else none
  | _, _ => none
def nilArg : List PV → Bool
  | [.d (.fz l)] => l.length == 0
  | _ => false
def efn (P : Program) (H : Hints) (S : Ora) (g : FuncId) (args : List PV) (τ : St) : Option (VO × St) :=
  if (H.nilq g && nilArg args) = true then bothX (efn0 P H S g [.nil] τ) (efn0 P H S g [.nz] τ) else efn0 P H S g args τ

/-- A deferred function that recovers in its first operation, or not at all. -/
def recOf : Code → Option (Tmp × Code)
  | .seq (.region _ ops false) rest => match ops.toList with
    | [⟨some d, .call ⟨.builtin .recover, as, _⟩, _, _, _, none⟩] => if as.size = 0 then some (d, rest) else none
    | _ => none
  | _ => none
def dfin (m : Nat) (md : Option D) : Res → Option (Option D × St)
  | some (.normal, s) => if s.df.length = 0 then some (md, (canon s.σ m []).2) else none
  | some (.ret, s) => if s.df.length = 0 then some (md, (canon s.σ m []).2) else none
  | _ => none
def edf (P : Program) (H : Hints) (S : Ora) (d : DV) (τ : St) (md : Option D) : Option (Option D × St) :=
  match P.funcs[d.f]? with
  | some fn => match fn.body with
    | some c => if H.has d.f = true ∧ (d.args ++ d.captured).length ≤ fn.ntmps ∧ fn.results.size = 0 then (match recOf c with
        | some (t, rest) => dfin τ.length none (ec P H d.f S τ.length rest ⟨putV (env0 (d.args ++ d.captured)) (some t) (recV md), [], τ⟩)
        | none => dfin τ.length md (ec P H d.f S τ.length c ⟨env0 (d.args ++ d.captured), [], τ⟩)) else none
    | none => none
  | none => none

/-! Loops and calls, so far -/
def loopN : Nat → (VS → Option VS) → (VS → Res) → VS → Res
  | 0, _, _, _ => none
  | n + 1, can, body, s => match can s with
    | some s' => thenX (body s') (loopN n can body)
    | none => none
def evn (P : Program) (H : Hints) : Nat → Ora
  | 0 => ⟨fun _ _ _ => none, fun _ _ _ => none, loopN 0⟩
  | n + 1 => ⟨efn P H (evn P H n), edf P H (evn P H n), loopN (n + 1)⟩
end Go.VL
namespace Go.VL
open Go

/-- Where a renaming of references is right. -/
def ValidF (f : Nat → Nat → Option (Nat × Nat)) (β : Bt) (σ : St) (β' : Bt) (τ : St) : Prop :=
  ∀ id g i g', f id g = some (i, g') → ∀ o, σ[id]? = some o → g ≤ o.gen → ∃ o', τ[i]? = some o' ∧ g' ≤ o'.gen ∧ (o'.gen = g' → o'.alive = true → o.gen = g ∧ o.alive = true ∧ β' i = β id)

section
variable {P : Program} {B : Base} {β β' : Bt} {σ τ : St} {w w' : World} {Z Z' : Nat → Prop} {f : Nat → Nat → Option (Nat × Nat)}

theorem VRel.ren (hf : ValidF f β σ β' τ) (hz : ∀ b, Z b → Z' b) : ∀ (n : Nat) {x : PV} {v : Value}, VRel β σ w Z x v → VRel β' τ w Z' (VL.ren f n x) v
  | 0, x, v, _ => .any v
  | n + 1, x, v, h => by
    cases h with
    | any v => exact .any v
    | d x v hd => exact .d _ _ (hd.mono (fun _ _ _ _ h => h) hz)
    | nil => exact .nil
    | nz a cap => exact .nz a cap
    | sl id g s k a m c o ho hg hp =>
      simp only [VL.ren]
      cases he : f id g with
      | none => exact .any _
      | some r =>
        obtain ⟨i, g'⟩ := r
        obtain ⟨o', h1, h2, h3⟩ := hf id g i g' he o ho hg
        refine .sl _ _ _ _ _ _ _ o' h1 h2 (fun e ha => ?_)
        obtain ⟨h4, h5, h6⟩ := h3 e ha
        rw [h6]; exact hp h4 h5
    | ptr id g i off a o ho hg hp =>
      simp only [VL.ren]
      cases he : f id g with
      | none => exact .any _
      | some r =>
        obtain ⟨j, g'⟩ := r
        obtain ⟨o', h1, h2, h3⟩ := hf id g j g' he o ho hg
        refine .ptr _ _ _ _ _ o' h1 h2 (fun e ha => ?_)
        obtain ⟨h4, h5, h6⟩ := h3 e ha
        rw [h6]; exact hp h4 h5
    | agg c vs hn hr =>
      refine .agg _ _ (by simpa using hn) (fun j x v hj hv => ?_)
      rw [List.getElem?_map] at hj
      cases hc : c[j]? with
      | none => rw [hc] at hj; simp at hj
      | some y => rw [hc] at hj; simp at hj; subst hj; exact VRel.ren hf hz n (hr j y v hc hv)
    | tup c vs hn hr =>
      refine .tup _ _ (by simpa using hn) (fun j x v hj hv => ?_)
      rw [List.getElem?_map] at hj
      cases hc : c[j]? with
      | none => rw [hc] at hj; simp at hj
      | some y => rw [hc] at hj; simp at hj; subst hj; exact VRel.ren hf hz n (hr j y v hc hv)
    | fn h a b va vb ha hb hra hrb =>
      refine .fn _ _ _ _ _ (by simpa using ha) (by simpa using hb) (fun j x v hj hv => ?_) (fun j x v hj hv => ?_)
      · rw [List.getElem?_map] at hj
        cases hc : a[j]? with
        | none => rw [hc] at hj; simp at hj
        | some y => rw [hc] at hj; simp at hj; subst hj; exact VRel.ren hf hz n (hra j y v hc hv)
      · rw [List.getElem?_map] at hj
        cases hc : b[j]? with
        | none => rw [hc] at hj; simp at hj
        | some y => rw [hc] at hj; simp at hj; subst hj; exact VRel.ren hf hz n (hrb j y v hc hv)

theorem VRelL.ren (hf : ValidF f β σ β' τ) (hz : ∀ b, Z b → Z' b) (n : Nat) {xs : List PV} {vs : List Value} (h : VRelL β σ w Z xs vs) : VRelL β' τ w Z' (xs.map (VL.ren f n)) vs := by
  refine ⟨by simpa using h.1, fun j x v hj hv => ?_⟩
  rw [List.getElem?_map] at hj
  cases hc : xs[j]? with
  | none => rw [hc] at hj; simp at hj
  | some y => rw [hc] at hj; simp at hj; subst hj; exact (h.2 j y v hc hv).ren hf hz n

theorem renOb_gen {g : Nat} {o : Ob} : (renOb f g o).gen = g := by cases o <;> rfl
theorem renOb_alive {g : Nat} {o : Ob} : (renOb f g o).alive = o.alive := by cases o <;> rfl
theorem renOb_live {g : Nat} {o : Ob} : (renOb f g o).live = o.live := by cases o <;> rfl

theorem Holds.ren (hf : ValidF f β σ β' τ) (hz : ∀ b, Z b → Z' b) {p : Option Pl} {o : Ob} {g : Nat} (h : Holds β σ w Z p o) : Holds β' τ w Z' p (renOb f g o) := by
  cases o with
  | dead => trivial
  | arr lv g0 sz es =>
    obtain ⟨h1, h2⟩ := h
    refine ⟨h1, ?_⟩
    cases p with
    | none => exact h2
    | some q =>
      obtain ⟨h3, h4, h5, h6⟩ := h2
      refine ⟨h3, h4, h5, fun i j e x hi hj => ?_⟩
      obtain ⟨v, h7, h8, h9⟩ := h6 i j e x hi hj
      exact ⟨v, h7, h8, h9.mono (fun _ _ _ _ h => h) hz⟩
  | box lv g0 c =>
    obtain ⟨q, h1, h2, h3, h4, h5⟩ := h
    refine ⟨q, h1, by simpa using h2, by simpa using h3, h4, fun j x hj => ?_⟩
    rw [List.getElem?_map] at hj
    cases hc : c[j]? with
    | none => rw [hc] at hj; simp at hj
    | some y =>
      rw [hc] at hj; simp at hj; subst hj
      obtain ⟨v, h6, h7⟩ := h5 j y hc
      exact ⟨v, h6, h7.ren hf hz 4⟩

theorem posOf_some : ∀ {l : List Nat} {id k0 k : Nat}, posOf id l k0 = some k → k0 ≤ k ∧ l[k - k0]? = some id
  | [], id, k0, k, h => by simp [posOf] at h
  | a :: l, id, k0, k, h => by
    simp only [posOf] at h
    split at h
    · rename_i e; cases h; subst e; simp
    · obtain ⟨h1, h2⟩ := posOf_some h
      refine ⟨by omega, ?_⟩
      have : k - k0 = (k - (k0 + 1)) + 1 := by omega
      rw [this, List.getElem?_cons_succ]; exact h2
theorem posOf_none : ∀ {l : List Nat} {id k0 : Nat}, posOf id l k0 = none → id ∉ l
  | [], id, k0, _ => by simp
  | a :: l, id, k0, h => by
    simp only [posOf] at h
    split at h
    · simp at h
    · rename_i e
      have := posOf_none h
      simp only [List.mem_cons, not_or]
      exact ⟨fun h => e h.symm, this⟩
theorem posOf_at : ∀ {l : List Nat} {k id k0 : Nat}, l.Nodup → l[k]? = some id → posOf id l k0 = some (k0 + k)
  | [], k, id, k0, _, h => by simp at h
  | a :: l, 0, id, k0, _, h => by simp at h; subst h; simp [posOf]
  | a :: l, k + 1, id, k0, hn, h => by
    rw [List.nodup_cons] at hn
    rw [List.getElem?_cons_succ] at h
    have : a ≠ id := fun e => hn.1 (e ▸ List.mem_of_getElem? h)
    simp only [posOf]
    rw [if_neg this, posOf_at hn.2 h]
    congr 1; omega
theorem posOf_get {l : List Nat} (hn : l.Nodup) {k id : Nat} (h : l[k]? = some id) : posOf id l 0 = some k := by
  rw [posOf_at hn h, Nat.zero_add]

/-- Numbers of objects that may be told: each once, none below m, all there. -/
structure IdsOk (σ : St) (m : Nat) (ids : List Nat) : Prop where
  nd : ids.Nodup
  ge : ∀ i ∈ ids, m ≤ i
  lt : ∀ i ∈ ids, i < σ.length

theorem addNew_ok {m : Nat} : ∀ {l acc : List Nat}, IdsOk σ m acc → (∀ i ∈ l, i < σ.length) → IdsOk σ m (addNew m acc l)
  | [], acc, h, _ => h
  | i :: l, acc, h, hl => by
    simp only [addNew]
    split
    · rename_i hi
      refine addNew_ok ⟨?_, ?_, ?_⟩ (fun j hj => hl j (by simp [hj]))
      · rw [List.nodup_append]
        refine ⟨h.nd, by simp, ?_⟩
        intro a ha b hb
        simp at hb; subst hb
        exact fun e => hi.2 (e ▸ ha)
      · intro j hj
        rcases List.mem_append.1 hj with h1 | h1
        · exact h.ge j h1
        · simp at h1; subst h1; exact hi.1
      · intro j hj
        rcases List.mem_append.1 hj with h1 | h1
        · exact h.lt j h1
        · simp at h1; subst h1; exact hl _ (by simp)
    · exact addNew_ok h (fun j hj => hl j (by simp [hj]))

theorem vrefs_lt : ∀ (n : Nat) (x : PV), ∀ i ∈ vrefs σ n x, i < σ.length
  | 0, x, i, h => by simp [vrefs] at h
  | n + 1, x, i, h => by
    cases x with
    | sl id g s k =>
      simp only [vrefs] at h
      split at h
      · rename_i o ho
        split at h
        · simp at h; subst h; exact get_lt ho
        · simp at h
      · simp at h
    | ptr id g s k =>
      simp only [vrefs] at h
      split at h
      · rename_i o ho
        split at h
        · simp at h; subst h; exact get_lt ho
        · simp at h
      · simp at h
    | agg c =>
      simp only [vrefs, List.mem_flatMap] at h
      obtain ⟨y, _, h⟩ := h
      exact vrefs_lt n y i h
    | tup c =>
      simp only [vrefs, List.mem_flatMap] at h
      obtain ⟨y, _, h⟩ := h
      exact vrefs_lt n y i h
    | fn f a b =>
      simp only [vrefs, List.mem_append, List.mem_flatMap] at h
      rcases h with ⟨y, _, h⟩ | ⟨y, _, h⟩ <;> exact vrefs_lt n y i h
    | _ => simp [vrefs] at h
theorem obRefs_lt {o : Option Ob} : ∀ i ∈ obRefs σ o, i < σ.length := by
  intro i h
  unfold obRefs at h
  split at h
  · obtain ⟨y, _, h⟩ := List.mem_flatMap.1 h
    exact vrefs_lt _ _ _ h
  · simp at h
theorem closeR_ok {m : Nat} : ∀ (k : Nat) {acc : List Nat}, IdsOk σ m acc → IdsOk σ m (closeR σ m k acc)
  | 0, acc, h => h
  | k + 1, acc, h => by
    simp only [closeR]
    refine closeR_ok k (addNew_ok h fun i hi => ?_)
    obtain ⟨y, _, h⟩ := List.mem_flatMap.1 hi
    exact obRefs_lt i h
theorem reach_ok {m : Nat} {xs : List PV} : IdsOk σ m (reach σ m xs) := by
  unfold reach
  refine closeR_ok 3 (addNew_ok ⟨by simp, by simp, by simp⟩ fun i hi => ?_)
  rcases List.mem_append.1 hi with h | h
  · obtain ⟨y, _, h⟩ := List.mem_flatMap.1 h; exact obRefs_lt i h
  · obtain ⟨y, _, h⟩ := List.mem_flatMap.1 h; exact vrefs_lt _ _ i h

/-- Where the objects of the new store lie. -/
def btN (β : Bt) (m : Nat) (ids : List Nat) : Bt := fun k => if k < m then β k else match ids[k - m]? with
  | some id => β id
  | none => none

theorem canonSt_get {m : Nat} {ids : List Nat} (hm : m ≤ σ.length) (ho : IdsOk σ m ids) {k : Nat} {o' : Ob} (h : (canonSt σ m ids)[k]? = some o') :
    ∃ id o, σ[id]? = some o ∧ btN β m ids k = β id ∧ ((k < m ∧ id = k ∧ o' = renOb (toNew σ m ids) o.gen o) ∨ (m ≤ k ∧ ids[k - m]? = some id ∧ o' = renOb (toNew σ m ids) 0 o)) := by
  unfold canonSt at h
  rcases Nat.lt_or_ge k m with hk | hk
  · rw [List.getElem?_append_left (by simp; omega), List.getElem?_map, List.getElem?_take, if_pos hk] at h
    cases hc : σ[k]? with
    | none => rw [hc] at h; simp at h
    | some o => rw [hc] at h; simp at h; exact ⟨k, o, hc, by simp [btN, hk], .inl ⟨hk, rfl, h.symm⟩⟩
  · rw [List.getElem?_append_right (by simp; omega)] at h
    have e : ((σ.take m).map fun o => renOb (toNew σ m ids) o.gen o).length = m := by simp; omega
    rw [e, List.getElem?_map] at h
    cases hc : ids[k - m]? with
    | none => rw [hc] at h; simp at h
    | some id =>
      rw [hc] at h; simp at h
      have hl := ho.lt id (List.mem_of_getElem? hc)
      refine ⟨id, σ[id], List.getElem?_eq_getElem hl, by simp [btN, Nat.not_lt.2 hk, hc], .inr ⟨hk, rfl, ?_⟩⟩
      rw [← h, getOb, List.getElem?_eq_getElem hl]; rfl

theorem canonSt_at {m : Nat} {ids : List Nat} (hm : m ≤ σ.length) {k id : Nat} {o : Ob} (hk : ids[k]? = some id) (ho : σ[id]? = some o) : (canonSt σ m ids)[m + k]? = some (renOb (toNew σ m ids) 0 o) := by
  unfold canonSt
  have e : ((σ.take m).map fun o => renOb (toNew σ m ids) o.gen o).length = m := by simp; omega
  rw [List.getElem?_append_right (by omega), e, List.getElem?_map, Nat.add_sub_cancel_left, hk]
  simp [getOb, ho]
theorem canonSt_low {m : Nat} {ids : List Nat} {k : Nat} {o : Ob} (hk : k < m) (ho : σ[k]? = some o) : (canonSt σ m ids)[k]? = some (renOb (toNew σ m ids) o.gen o) := by
  unfold canonSt
  have := get_lt ho
  rw [List.getElem?_append_left (by simp; omega), List.getElem?_map, List.getElem?_take, if_pos hk, ho]; rfl

theorem toNew_valid {m : Nat} {ids : List Nat} (hm : m ≤ σ.length) : ValidF (toNew σ m ids) β σ (btN β m ids) (canonSt σ m ids) := by
  intro id g i g' he o ho hg
  unfold toNew at he
  split at he
  · rename_i hlt
    cases he
    exact ⟨_, canonSt_low hlt ho, by rw [renOb_gen]; exact hg, fun e ha => ⟨by rw [renOb_gen] at e; exact e, by rw [renOb_alive] at ha; exact ha, by simp [btN, hlt]⟩⟩
  · rename_i hlt
    split at he
    · rename_i k o1 hp ho1
      rw [ho] at ho1; cases ho1
      split at he
      · rename_i hgen
        cases he
        obtain ⟨-, h2⟩ := posOf_some hp
        simp only [Nat.sub_zero] at h2
        refine ⟨_, canonSt_at hm h2 ho, by omega, fun _ ha => ⟨hgen, by rw [renOb_alive] at ha; exact ha, ?_⟩⟩
        unfold btN
        rw [if_neg (by omega), Nat.add_sub_cancel_left, h2]
      · simp at he
    · simp at he

theorem canon_own {m : Nat} {ids : List Nat} (hm : m ≤ σ.length) (ho : IdsOk σ m ids) {b : Nat} (h : Own (btN β m ids) (canonSt σ m ids) b) : Own β σ b := by
  obtain ⟨k, o', p, h1, h2, h3, h4⟩ := h
  obtain ⟨id, o, h5, h6, h7⟩ := canonSt_get (β := β) hm ho h1
  refine ⟨id, o, p, h5, ?_, by rw [← h6]; exact h3, h4⟩
  rcases h7 with ⟨-, -, rfl⟩ | ⟨-, -, rfl⟩ <;> rwa [renOb_live] at h2

theorem canon_inv {m : Nat} {ids : List Nat} (hm : m ≤ σ.length) (ho : IdsOk σ m ids) (h : Inv β σ w Z) (hz : ∀ b, Z b → Z' b) : Inv (btN β m ids) (canonSt σ m ids) w Z' := by
  refine ⟨fun k o' hk => ?_, fun k o1 k' o2 p p' h1 h2 hl ha hne hp hp' => ?_⟩
  · obtain ⟨id, o, h5, h6, h7⟩ := canonSt_get (β := β) hm ho hk
    rw [h6]
    rcases h7 with ⟨-, -, rfl⟩ | ⟨-, -, rfl⟩ <;> exact (h.holds id o h5).ren (toNew_valid hm) hz
  · obtain ⟨id, o, h5, h6, h7⟩ := canonSt_get (β := β) hm ho h1
    obtain ⟨id', o', h5', h6', h7'⟩ := canonSt_get (β := β) hm ho h2
    have e1 : o1.live = o.live := by rcases h7 with ⟨-, -, rfl⟩ | ⟨-, -, rfl⟩ <;> rw [renOb_live]
    have e2 : o2.alive = o'.alive := by rcases h7' with ⟨-, -, rfl⟩ | ⟨-, -, rfl⟩ <;> rw [renOb_alive]
    refine h.apart id o id' o' p p' h5 h5' (by rw [← e1]; exact hl) (by rw [← e2]; exact ha) ?_ (by rw [← h6]; exact hp) (by rw [← h6']; exact hp')
    intro e
    subst e
    rcases h7 with ⟨a1, a2, -⟩ | ⟨a1, a2, -⟩ <;> rcases h7' with ⟨b1, b2, -⟩ | ⟨b1, b2, -⟩
    · omega
    · have := ho.ge _ (List.mem_of_getElem? b2); omega
    · have := ho.ge _ (List.mem_of_getElem? a2); omega
    · have := posOf_get ho.nd a2
      rw [posOf_get ho.nd b2] at this
      simp at this; omega

theorem WR.len (h : WR B β σ w) : B.σ.length ≤ σ.length := by
  rcases Nat.lt_or_ge σ.length B.σ.length with h1 | h1
  · obtain ⟨o', h2, _⟩ := h.ext σ.length _ (List.getElem?_eq_getElem h1)
    have := get_lt h2; omega
  · exact h1

/-- Garbage goes. -/
theorem canon_wr {ids : List Nat} (h : WR B β σ w) (ho : IdsOk σ B.σ.length ids) : WR B (btN β B.σ.length ids) (canonSt σ B.σ.length ids) w ∧ ∀ b, Zc B β σ w b → Zc B (btN β B.σ.length ids) (canonSt σ B.σ.length ids) w b := by
  have hm := h.len
  have hz : ∀ b, Zc B β σ w b → Zc B (btN β B.σ.length ids) (canonSt σ B.σ.length ids) w b := fun b hb => ⟨hb.1, fun hw => hb.2.1 (canon_own hm ho hw), hb.2.2⟩
  refine ⟨⟨canon_inv hm ho h.inv hz, h.size, h.keep, fun b hb => h.own b (canon_own hm ho hb), ?_, h.rest, ?_⟩, hz⟩
  · intro id o hid
    have hlt := get_lt hid
    obtain ⟨o', h1, h2, h3⟩ := h.ext id o hid
    refine ⟨_, canonSt_low hlt h1, by rw [renOb_gen]; exact h2, fun e ha => ?_⟩
    rw [renOb_gen] at e; rw [renOb_alive] at ha
    obtain ⟨h4, h5⟩ := h3 e ha
    exact ⟨h4, by simp only [btN, if_pos hlt]; exact h5⟩
  · intro k o' q' h1 h2 h3
    obtain ⟨id, o, h5, h6, h7⟩ := canonSt_get (β := β) hm ho h1
    rw [h6] at h3
    have ha : o.alive = true := by rcases h7 with ⟨-, -, rfl⟩ | ⟨-, -, rfl⟩ <;> rwa [renOb_alive] at h2
    rcases h.place id o q' h5 ha h3 with h8 | ⟨o0, q0, h8, h9⟩
    · exact .inl h8
    · rcases h7 with ⟨a1, a2, -⟩ | ⟨a1, a2, -⟩
      · subst a2; exact .inr ⟨o0, q0, h8, h9⟩
      · have := ho.ge _ (List.mem_of_getElem? a2); have := get_lt h8; omega

theorem canon_vals {ids : List Nat} (h : WR B β σ w) (ho : IdsOk σ B.σ.length ids) {xs : List PV} {vs : List Value} (n : Nat) (hv : VRelL β σ w (Zc B β σ w) xs vs) :
    VRelL (btN β B.σ.length ids) (canonSt σ B.σ.length ids) w (Zc B (btN β B.σ.length ids) (canonSt σ B.σ.length ids) w) (xs.map (VL.ren (toNew σ B.σ.length ids) n)) vs :=
  hv.ren (toNew_valid h.len) (canon_wr h ho).2 n

/-- Less is told, or told otherwise, of some values and the store. -/
def SW (m : Nat) (xs : List PV) (σ : St) (xs' : List PV) (σ' : St) : Prop :=
  ∀ (B : Base) (β : Bt) (w : World) (vs : List Value), B.σ.length = m → WR B β σ w → VRelL β σ w (Zc B β σ w) xs vs → ∃ β', WR B β' σ' w ∧ VRelL β' σ' w (Zc B β' σ' w) xs' vs ∧ ∀ b, Zc B β σ w b → Zc B β' σ' w b

theorem SW.refl {m : Nat} {xs : List PV} : SW m xs σ xs σ := fun _ β _ _ _ hw hv => ⟨β, hw, hv, fun _ h => h⟩
theorem SW.trans {m : Nat} {xs ys zs : List PV} {σ1 σ2 σ3 : St} (h : SW m xs σ1 ys σ2) (h' : SW m ys σ2 zs σ3) : SW m xs σ1 zs σ3 := by
  intro B β w vs hm hw hv
  obtain ⟨β1, h1, h2, h3⟩ := h B β w vs hm hw hv
  obtain ⟨β2, h4, h5, h6⟩ := h' B β1 w vs hm h1 h2
  exact ⟨β2, h4, h5, fun b hb => h6 b (h3 b hb)⟩
theorem SW.canon {m : Nat} {xs : List PV} : SW m xs σ (VL.canon σ m xs).1 (VL.canon σ m xs).2 := by
  intro B β w vs hm hw hv
  subst hm
  exact ⟨_, (canon_wr hw reach_ok).1, canon_vals hw reach_ok 5 hv, (canon_wr hw reach_ok).2⟩
/-- The same, of a store and values that a move tells. -/
theorem SW.of_mv {m : Nat} {xs xs' : List PV} {σ' : St} (h : ∀ (B : Base) (β : Bt) (w : World) (vs : List Value), B.σ.length = m → WR B β σ w → VRelL β σ w (Zc B β σ w) xs vs → ∃ β', Mv B β σ w β' σ' w ∧ VRelL β' σ' w (Zc B β' σ' w) xs' vs) : SW m xs σ xs' σ' := by
  intro B β w vs hm hw hv
  obtain ⟨β', h1, h2⟩ := h B β w vs hm hw hv
  exact ⟨β', h1.wr, h2, h1.zc⟩
end
end Go.VL
namespace Go.VL
open Go

/-- Where the caller's objects lie, behind the call. -/
def btM (β : Bt) (σ : St) (ids : List Nat) (β2 : Bt) : Bt := fun id => match posOf id ids 0 with
  | some k => β2 k
  | none => if id < σ.length then β id else β2 (ids.length + (id - σ.length))

section
variable {P : Program} {B : Base} {β β2 : Bt} {σ τ τ2 : St} {w w' : World} {Z Z' Z1 : Nat → Prop} {ids : List Nat}

theorem putB_get : ∀ (l : List Nat) (τ acc : St), l.Nodup → (∀ i ∈ l, i < acc.length) → l.length ≤ τ.length → ∀ j, (putB σ ids l τ acc)[j]? = match posOf j l 0 with
    | some k => (τ[k]?).map fun o => renOb (toOld σ ids) ((getOb σ j).gen + o.gen) o
    | none => if j < acc.length then acc[j]? else (τ[l.length + (j - acc.length)]?).map fun o => renOb (toOld σ ids) o.gen o
  | [], τ, acc, _, _, _, j => by
    simp only [putB, posOf, List.length_nil, Nat.zero_add]
    by_cases h : j < acc.length
    · rw [if_pos h, List.getElem?_append_left h]
    · rw [if_neg h, List.getElem?_append_right (by omega), List.getElem?_map]
  | i :: l, [], acc, _, _, hl, j => by simp at hl
  | i :: l, o :: τ, acc, hn, ha, hl, j => by
    rw [List.nodup_cons] at hn
    have hlen : l.length ≤ τ.length := by simpa using hl
    have ih := putB_get l τ (acc.set i (renOb (toOld σ ids) ((getOb σ i).gen + o.gen) o)) hn.2 (fun a h => by simpa using ha a (by simp [h])) hlen j
    simp only [putB, ih, posOf, List.length_set]
    by_cases e : i = j
    · subst e
      have hno : posOf i l 0 = none := by
        cases hp : posOf i l 0 with
        | none => rfl
        | some k => exact absurd (List.mem_of_getElem? (posOf_some hp).2) hn.1
      have hi := ha i (by simp)
      rw [hno, if_pos rfl]
      simp only [if_pos hi]
      rw [List.getElem?_set_self hi]; simp
    · rw [if_neg e]
      have hsh : ∀ (l : List Nat) (k0 : Nat), posOf j l (k0 + 1) = (posOf j l k0).map (· + 1) := by
        intro l
        induction l with
        | nil => intro k0; rfl
        | cons a l ih => intro k0; simp only [posOf]; split <;> simp [ih]
      rw [hsh l 0]
      cases hp : posOf j l 0 with
      | some k => simp
      | none =>
        simp only [Option.map_none]
        by_cases hj : j < acc.length
        · rw [if_pos hj, if_pos hj, List.getElem?_set_ne e]
        · rw [if_neg hj, if_neg hj]
          have : (i :: l).length + (j - acc.length) = (l.length + (j - acc.length)) + 1 := by simp; omega
          rw [this, List.getElem?_cons_succ]

theorem canonSt0_length : (canonSt σ 0 ids).length = ids.length := by simp [canonSt]

/-- What the caller's objects are, behind the call. -/
theorem merge_get (ho : IdsOk σ 0 ids) (hl : ids.length ≤ τ2.length) {id : Nat} {o : Ob} (h : (putB σ ids ids τ2 σ)[id]? = some o) :
    (∃ k o2, ids[k]? = some id ∧ τ2[k]? = some o2 ∧ btM β σ ids β2 id = β2 k ∧ o = renOb (toOld σ ids) ((getOb σ id).gen + o2.gen) o2) ∨
    (id ∉ ids ∧ id < σ.length ∧ σ[id]? = some o ∧ btM β σ ids β2 id = β id) ∨
    (σ.length ≤ id ∧ ∃ o2, τ2[ids.length + (id - σ.length)]? = some o2 ∧ btM β σ ids β2 id = β2 (ids.length + (id - σ.length)) ∧ o = renOb (toOld σ ids) o2.gen o2) := by
  rw [putB_get ids τ2 σ ho.nd ho.lt hl id] at h
  unfold btM
  cases hp : posOf id ids 0 with
  | some k =>
    rw [hp] at h
    obtain ⟨-, h2⟩ := posOf_some hp
    simp only [Nat.sub_zero] at h2
    cases hc : τ2[k]? with
    | none => simp [hc] at h
    | some o2 => simp [hc] at h; exact .inl ⟨k, o2, h2, hc, rfl, h.symm⟩
  | none =>
    rw [hp] at h
    have hni := posOf_none hp
    simp only at h
    by_cases hlt : id < σ.length
    · rw [if_pos hlt] at h; rw [if_pos hlt]; exact .inr (.inl ⟨hni, hlt, h, rfl⟩)
    · rw [if_neg hlt] at h; rw [if_neg hlt]
      cases hc : τ2[ids.length + (id - σ.length)]? with
      | none => simp [hc] at h
      | some o2 => simp [hc] at h; exact .inr (.inr ⟨by omega, o2, rfl, rfl, h.symm⟩)

theorem merge_old (ho : IdsOk σ 0 ids) (hl : ids.length ≤ τ2.length) {k id : Nat} {o2 : Ob} (hk : ids[k]? = some id) (h2 : τ2[k]? = some o2) :
    (putB σ ids ids τ2 σ)[id]? = some (renOb (toOld σ ids) ((getOb σ id).gen + o2.gen) o2) ∧ btM β σ ids β2 id = β2 k := by
  have hp := posOf_get ho.nd hk
  rw [putB_get ids τ2 σ ho.nd ho.lt hl id]
  unfold btM
  rw [hp]; simp [h2]
theorem merge_new (ho : IdsOk σ 0 ids) (hl : ids.length ≤ τ2.length) {k : Nat} {o2 : Ob} (hk : ids.length ≤ k) (h2 : τ2[k]? = some o2) :
    (putB σ ids ids τ2 σ)[σ.length + (k - ids.length)]? = some (renOb (toOld σ ids) o2.gen o2) ∧ btM β σ ids β2 (σ.length + (k - ids.length)) = β2 k := by
  have hp : posOf (σ.length + (k - ids.length)) ids 0 = none := by
    cases hq : posOf (σ.length + (k - ids.length)) ids 0 with
    | none => rfl
    | some j => have := ho.lt _ (List.mem_of_getElem? (posOf_some hq).2); omega
  rw [putB_get ids τ2 σ ho.nd ho.lt hl _]
  unfold btM
  rw [hp]
  simp only
  rw [if_neg (by omega), if_neg (by omega)]
  have : ids.length + (σ.length + (k - ids.length) - σ.length) = k := by omega
  rw [this, h2]; exact ⟨rfl, rfl⟩
theorem merge_same (ho : IdsOk σ 0 ids) (hl : ids.length ≤ τ2.length) {id : Nat} {o : Ob} (hn : id ∉ ids) (h : σ[id]? = some o) :
    (putB σ ids ids τ2 σ)[id]? = some o ∧ btM β σ ids β2 id = β id := by
  have hp : posOf id ids 0 = none := by
    cases hq : posOf id ids 0 with
    | none => rfl
    | some j => exact absurd (List.mem_of_getElem? (posOf_some hq).2) (by simpa using hn)
  have := get_lt h
  rw [putB_get ids τ2 σ ho.nd ho.lt hl id]
  unfold btM
  rw [hp]
  simp only
  rw [if_pos this, if_pos this]; exact ⟨h, rfl⟩

theorem toOld_valid (ho : IdsOk σ 0 ids) (hl : ids.length ≤ τ2.length) : ValidF (toOld σ ids) β2 τ2 (btM β σ ids β2) (putB σ ids ids τ2 σ) := by
  intro k g i g' he o2 h2 hg
  unfold toOld at he
  cases hk : ids[k]? with
  | some id =>
    rw [hk] at he; simp at he
    obtain ⟨rfl, rfl⟩ := he
    obtain ⟨h3, h4⟩ := merge_old (β := β) (β2 := β2) ho hl hk h2
    exact ⟨_, h3, by rw [renOb_gen]; omega, fun e ha => ⟨by rw [renOb_gen] at e; omega, by rw [renOb_alive] at ha; exact ha, h4⟩⟩
  | none =>
    rw [hk] at he; simp at he
    obtain ⟨rfl, rfl⟩ := he
    have hk' : ids.length ≤ k := by
      rcases Nat.lt_or_ge k ids.length with h | h
      · rw [List.getElem?_eq_getElem h] at hk; simp at hk
      · exact h
    obtain ⟨h3, h4⟩ := merge_new (β := β) (β2 := β2) ho hl hk' h2
    exact ⟨_, h3, by rw [renOb_gen]; exact hg, fun e ha => ⟨by rw [renOb_gen] at e; exact e, by rw [renOb_alive] at ha; exact ha, h4⟩⟩

theorem own_canon (ho : IdsOk σ 0 ids) {b : Nat} (h : Own (btN β 0 ids) (canonSt σ 0 ids) b) : ∃ id o p, id ∈ ids ∧ σ[id]? = some o ∧ o.live = true ∧ β id = some p ∧ p.blk = b := by
  obtain ⟨k, o', p, h1, h2, h3, h4⟩ := h
  obtain ⟨id, o, h5, h6, h7⟩ := canonSt_get (β := β) (Nat.zero_le _) ho h1
  rcases h7 with ⟨h8, -, -⟩ | ⟨-, h8, rfl⟩
  · omega
  · exact ⟨id, o, p, List.mem_of_getElem? h8, h5, by rwa [renOb_live] at h2, by rw [← h6]; exact h3, h4⟩

theorem merge_mv (hw : WR B β σ w) (ho : IdsOk σ 0 ids) (hc : WR ⟨btN β 0 ids, canonSt σ 0 ids, w, Z1⟩ β2 τ2 w')
    (hh : ∀ (Zm : Nat → Prop), (∀ b, Zc B β σ w b → Zm b) → (∀ b, Zc ⟨btN β 0 ids, canonSt σ 0 ids, w, Zc B β σ w⟩ β2 τ2 w' b → Zm b) → ∀ k o, τ2[k]? = some o → Holds β2 τ2 w' Zm (β2 k) o) :
    Mv B β σ w (btM β σ ids β2) (putB σ ids ids τ2 σ) w' ∧ ∀ b, Zc ⟨btN β 0 ids, canonSt σ 0 ids, w, Zc B β σ w⟩ β2 τ2 w' b → Zc B (btM β σ ids β2) (putB σ ids ids τ2 σ) w' b := by
  have hl : ids.length ≤ τ2.length := by
    have := hc.len
    simp only [canonSt0_length] at this; exact this
  have hpl : ∀ k o2 q, τ2[k]? = some o2 → o2.alive = true → β2 k = some q → w.heap.size ≤ q.blk ∨ ∃ id o, ids[k]? = some id ∧ σ[id]? = some o ∧ o.alive = true ∧ ∃ q0, β id = some q0 ∧ q0.blk = q.blk := by
    intro k o2 q h1 h2 h3
    rcases hc.place k o2 q h1 h2 h3 with h4 | ⟨o1, q1, h4, h5, h6, h7⟩
    · exact .inl h4
    · obtain ⟨id, o, h8, h9, h10⟩ := canonSt_get (β := β) (Nat.zero_le _) ho h4
      rcases h10 with ⟨h11, -, -⟩ | ⟨-, h11, rfl⟩
      · omega
      · refine .inr ⟨id, o, by simpa using h11, h8, by rwa [renOb_alive] at h5, q1, ?_, h7⟩
        have h6' : btN β 0 ids k = some q1 := h6
        rw [← h9]; exact h6'
  have hown2 : ∀ b, Own β2 τ2 b → (∃ id o p, id ∈ ids ∧ σ[id]? = some o ∧ o.live = true ∧ β id = some p ∧ p.blk = b) ∨ w.heap.size ≤ b := by
    intro b hb
    rcases hc.own b hb with h | h
    · exact .inl (own_canon ho h)
    · exact .inr h
  have hown : ∀ b, Own (btM β σ ids β2) (putB σ ids ids τ2 σ) b → Own β σ b ∨ w.heap.size ≤ b := by
    rintro b ⟨id, o, p, h1, h2, h3, h4⟩
    rcases merge_get (β := β) (β2 := β2) ho hl h1 with ⟨k, o2, h5, h6, h7, rfl⟩ | ⟨h5, h6, h7, h8⟩ | ⟨h5, o2, h6, h7, rfl⟩
    · rw [renOb_live] at h2
      rcases hown2 b ⟨k, o2, p, h6, h2, by rw [← h7]; exact h3, h4⟩ with ⟨i, oo, q, a1, a2⟩ | h
      · exact .inl ⟨i, oo, q, a2⟩
      · exact .inr h
    · exact .inl ⟨id, o, p, h7, h2, by rw [← h8]; exact h3, h4⟩
    · rw [renOb_live] at h2
      rcases hown2 b ⟨_, o2, p, h6, h2, by rw [← h7]; exact h3, h4⟩ with ⟨i, oo, q, a1, a2⟩ | h
      · exact .inl ⟨i, oo, q, a2⟩
      · exact .inr h
  have hkeep : ∀ b, b < w.heap.size → ¬ Own β σ b → w'.heap[b]? = w.heap[b]? := by
    intro b hb hn
    refine hc.keep b hb fun h => hn ?_
    obtain ⟨id, o, p, -, h⟩ := own_canon ho h
    exact ⟨id, o, p, h⟩
  have hext : Ext β σ (btM β σ ids β2) (putB σ ids ids τ2 σ) := by
    intro id o hid
    by_cases hm : id ∈ ids
    · obtain ⟨k, hk⟩ := List.getElem?_of_mem hm
      have h1 := canonSt_at (σ := σ) (m := 0) (Nat.zero_le _) hk hid
      rw [Nat.zero_add] at h1
      obtain ⟨o2, h2, h3, h4⟩ := hc.ext k _ h1
      obtain ⟨h5, h6⟩ := merge_old (β := β) (β2 := β2) ho hl hk h2
      have hg : (getOb σ id).gen = o.gen := by simp [getOb, hid]
      refine ⟨_, h5, by rw [renOb_gen, hg]; omega, fun e ha => ?_⟩
      rw [renOb_gen, hg] at e; rw [renOb_alive] at ha
      obtain ⟨h7, h8⟩ := h4 (by rw [renOb_gen]; omega) ha
      rw [renOb_alive] at h7
      refine ⟨h7, ?_⟩
      rw [h6, h8]
      show btN β 0 ids k = β id
      simp [btN, hk]
    · obtain ⟨h1, h2⟩ := merge_same (β := β) (β2 := β2) ho hl hm hid
      exact ⟨o, h1, Nat.le_refl _, fun _ ha => ⟨ha, h2⟩⟩
  have hplm : Plc β σ w.heap.size (btM β σ ids β2) (putB σ ids ids τ2 σ) := by
    intro id o q h1 h2 h3
    rcases merge_get (β := β) (β2 := β2) ho hl h1 with ⟨k, o2, h5, h6, h7, rfl⟩ | ⟨h5, h6, h7, h8⟩ | ⟨h5, o2, h6, h7, rfl⟩
    · rw [renOb_alive] at h2
      rw [h7] at h3
      rcases hpl k o2 q h6 h2 h3 with h9 | ⟨i, oo, a1, a2, a3, q0, a4, a5⟩
      · exact .inl h9
      · rw [h5] at a1; cases a1; exact .inr ⟨oo, q0, a2, a3, a4, a5⟩
    · exact .inr ⟨o, q, h7, h2, by rw [← h8]; exact h3, rfl⟩
    · rw [renOb_alive] at h2
      rw [h7] at h3
      rcases hpl _ o2 q h6 h2 h3 with h9 | ⟨i, oo, a1, a2, a3, q0, a4, a5⟩
      · exact .inl h9
      · have := get_lt a1; omega
  have hz := zc_of (B := B) hc.size hown
  have hk := cells_of (B := B) hkeep
  have hz2 : ∀ b, Zc ⟨btN β 0 ids, canonSt σ 0 ids, w, Zc B β σ w⟩ β2 τ2 w' b → Zc B (btM β σ ids β2) (putB σ ids ids τ2 σ) w' b := by
    rintro b ⟨h1, h2, h3⟩
    have hsz := hw.size
    refine ⟨?_, ?_, h3⟩
    · rcases h1 with h1 | h1
      · exact h1.1
      · exact .inr (Nat.le_trans hsz h1)
    · rintro ⟨id, o, p, a1, a2, a3, a4⟩
      rcases merge_get (β := β) (β2 := β2) ho hl a1 with ⟨k, o2, h5, h6, h7, rfl⟩ | ⟨h5, h6, h7, h8⟩ | ⟨h5, o2, h6, h7, rfl⟩
      · rw [renOb_live] at a2
        exact h2 ⟨k, o2, p, h6, a2, by rw [← h7]; exact a3, a4⟩
      · rw [h8] at a3
        have hlt := Inv.lt hw h7 (Ob.alive_of_live a2) a3
        rcases h1 with h1 | h1
        · exact h1.2.1 ⟨id, o, p, h7, a2, a3, a4⟩
        · have : w.heap.size ≤ b := h1
          omega
      · rw [renOb_live] at a2
        exact h2 ⟨_, o2, p, h6, a2, by rw [← h7]; exact a3, a4⟩
  refine ⟨Mv.mk' hw hc.size hkeep hown hext hc.rest hplm ⟨fun id o hid => ?_, fun id o id' o' p p' h1 h2 hlv ha hne hp hp' => ?_⟩, hz2⟩
  · have hH := hh _ hz hz2
    rcases merge_get (β := β) (β2 := β2) ho hl hid with ⟨k, o2, h5, h6, h7, rfl⟩ | ⟨h5, h6, h7, h8⟩ | ⟨h5, o2, h6, h7, rfl⟩
    · rw [h7]; exact (hH k o2 h6).ren (toOld_valid ho hl) (fun _ h => h)
    · rw [h8]
      refine (hw.inv.holds id o h7).mono hext hk hz (fun q hq ha => ?_)
      refine hc.keep q.blk (Inv.lt hw h7 ha hq) fun hn => ?_
      obtain ⟨i, oi, pi, b1, b2, b3, b4, b5⟩ := own_canon ho hn
      exact hw.inv.apart i oi id o pi q b2 h7 b3 ha (fun e => h5 (e ▸ b1)) b4 hq b5
    · rw [h7]; exact (hH _ o2 h6).ren (toOld_valid ho hl) (fun _ h => h)
  · -- apart
    have old : ∀ k o2 q id0 o0 q0, τ2[k]? = some o2 → o2.alive = true → β2 k = some q → id0 ∉ ids → σ[id0]? = some o0 → o0.alive = true → β id0 = some q0 → (o2.live = true ∨ o0.live = true) → q.blk ≠ q0.blk := by
      intro k o2 q id0 o0 q0 a1 a2 a3 a4 a5 a6 a7 a8 e
      have hlt := Inv.lt hw a5 a6 a7
      rcases a8 with a8 | a8
      · rcases hown2 q.blk ⟨k, o2, q, a1, a8, a3, rfl⟩ with ⟨i, oi, pi, b1, b2, b3, b4, b5⟩ | h
        · exact hw.inv.apart i oi id0 o0 pi q0 b2 a5 b3 a6 (fun e => a4 (e ▸ b1)) b4 a7 (b5.trans e)
        · omega
      · rcases hpl k o2 q a1 a2 a3 with h | ⟨i, oi, b1, b2, b3, pi, b4, b5⟩
        · omega
        · exact hw.inv.apart id0 o0 i oi q0 pi a5 b2 a8 b3 (fun e => a4 (e ▸ List.mem_of_getElem? b1)) a7 b4 (by rw [b5, e])
    have hal := Ob.alive_of_live hlv
    rcases merge_get (β := β) (β2 := β2) ho hl h1 with ⟨k, o2, h5, h6, h7, rfl⟩ | ⟨h5, h6, h7, h8⟩ | ⟨h5, o2, h6, h7, rfl⟩ <;>
      rcases merge_get (β := β) (β2 := β2) ho hl h2 with ⟨k', o2', h5', h6', h7', rfl⟩ | ⟨h5', h6', h7', h8'⟩ | ⟨h5', o2', h6', h7', rfl⟩
    · rw [renOb_live] at hlv; rw [renOb_alive] at ha
      exact hc.inv.apart k o2 k' o2' p p' h6 h6' hlv ha (fun e => by subst e; rw [h5] at h5'; cases h5'; exact hne rfl) (by rw [← h7]; exact hp) (by rw [← h7']; exact hp')
    · rw [renOb_live] at hlv; rw [renOb_alive] at hal
      exact old k o2 p id' o' p' h6 hal (by rw [← h7]; exact hp) h5' h7' ha (by rw [← h8']; exact hp') (.inl hlv)
    · rw [renOb_live] at hlv; rw [renOb_alive] at ha
      have := get_lt h5
      exact hc.inv.apart k o2 _ o2' p p' h6 h6' hlv ha (by omega) (by rw [← h7]; exact hp) (by rw [← h7']; exact hp')
    · rw [renOb_alive] at ha
      exact fun e => old k' o2' p' id o p h6' ha (by rw [← h7']; exact hp') h5 h7 hal (by rw [← h8]; exact hp) (.inr hlv) e.symm
    · exact hw.inv.apart id o id' o' p p' h7 h7' hlv ha hne (by rw [← h8]; exact hp) (by rw [← h8']; exact hp')
    · rw [renOb_alive] at ha
      exact fun e => old _ o2' p' id o p h6' ha (by rw [← h7']; exact hp') h5 h7 hal (by rw [← h8]; exact hp) (.inr hlv) e.symm
    · rw [renOb_live] at hlv; rw [renOb_alive] at ha
      have := get_lt h5'
      exact hc.inv.apart _ o2 k' o2' p p' h6 h6' hlv ha (by omega) (by rw [← h7]; exact hp) (by rw [← h7']; exact hp')
    · rw [renOb_live] at hlv; rw [renOb_alive] at hal
      exact old _ o2 p id' o' p' h6 hal (by rw [← h7]; exact hp) h5' h7' ha (by rw [← h8']; exact hp') (.inl hlv)
    · rw [renOb_live] at hlv; rw [renOb_alive] at ha
      exact hc.inv.apart _ o2 _ o2' p p' h6 h6' hlv ha (by omega) (by rw [← h7]; exact hp) (by rw [← h7']; exact hp')
end
end Go.VL
namespace Go.VL
open Go

def Ex (r : VO × St) (o : VO) (σ' : St) : Prop := (o, σ') = r
def ExD (r : Option D × St) (md : Option D) (σ' : St) : Prop := (md, σ') = r

/-- An oracle that tells the truth. -/
structure SOK (P : Program) (S : Ora) : Prop where
  f : ∀ g xs τ r m, S.f g xs τ = some r → PCalls P m g xs τ (Ex r)
  d : ∀ x τ md r m, S.d x τ md = some r → PDefs P m x τ md (ExD r)

section
variable {P : Program} {B : Base} {β β2 : Bt} {σ τ τ2 : St} {w w' : World} {Z Z' Z1 : Nat → Prop} {ids : List Nat} {S : Ora}

theorem zc_sub (ho : IdsOk σ 0 ids) (b : Nat) (hb : Zc B β σ w b) : Zc ⟨btN β 0 ids, canonSt σ 0 ids, w, Zc B β σ w⟩ (btN β 0 ids) (canonSt σ 0 ids) w b :=
  ⟨.inl hb, fun h => hb.2.1 (canon_own (Nat.zero_le _) ho h), hb.2.2⟩

/-- The callee's few objects, as the callee has them. -/
theorem small_wr (hw : WR B β σ w) (ho : IdsOk σ 0 ids) : WR ⟨btN β 0 ids, canonSt σ 0 ids, w, Zc B β σ w⟩ (btN β 0 ids) (canonSt σ 0 ids) w :=
  ⟨canon_inv (Nat.zero_le _) ho hw.inv (zc_sub ho), Nat.le_refl _, fun _ _ _ => rfl, fun _ h => .inl h, Ext.refl _ _, ⟨rfl, rfl, rfl⟩, Plc.refl _ _ _⟩

theorem callI_sound (hS : SOK P S) (hw : WR B β σ w) (ho : IdsOk σ 0 ids) {g : FuncId} {ys : List PV} {vals : List Value} {o : VO}
    (h : S.f g (ys.map (ren (toNew σ 0 ids) 5)) (canonSt σ 0 ids) = some (o, τ2)) (hv : VRelL β σ w (Zc B β σ w) ys vals) :
    Called P g vals.toArray w fun e w' => ∃ β', Mv B β σ w β' (putB σ ids ids τ2 σ) w' ∧ VORel B β' (putB σ ids ids τ2 σ) w' (backV σ ids o) e := by
  have hc := hS.f g _ _ _ (canonSt σ 0 ids).length h ⟨btN β 0 ids, canonSt σ 0 ids, w, Zc B β σ w⟩ (btN β 0 ids) w vals rfl (small_wr hw ho) (hv.ren (toNew_valid (Nat.zero_le _)) (zc_sub ho) 5)
  refine hc.mono ?_
  rintro e w' ⟨o', τ', β', he, hm, hr⟩
  cases he
  have hl : ids.length ≤ τ2.length := by
    have := hm.wr.len
    simp only [canonSt0_length] at this; exact this
  obtain ⟨h1, h2⟩ := merge_mv hw ho hm.wr (fun Zm _ h2 k o hk => by
    have := hm.wr.inv.holds k o hk
    exact this.mono (Ext.refl _ _) (fun _ _ _ _ h => h) h2 (fun _ _ _ => rfl))
  refine ⟨_, h1, ?_⟩
  cases o with
  | ret x =>
    cases e with
    | returned v => exact VRel.ren (toOld_valid ho hl) h2 5 hr
    | _ => exact hr.elim
  | pan x =>
    cases e with
    | panicked ch =>
      obtain ⟨v, rfl, hd⟩ := hr
      exact ⟨v, rfl, hd.mono (fun _ _ _ _ h => h) h2⟩
    | _ => exact hr.elim

theorem flatV_rel : ∀ (n : Nat) {x : PV} {v : Value}, flatV n x = true → VRel β σ w Z x v → VRel β σ w Z' x v
  | 0, x, v, h, _ => by simp [flatV] at h
  | n + 1, x, v, h, hv => by
    cases hv with
    | d x v hd => exact .d _ _ (flat_rel 4 (by simpa [flatV] using h) hd)
    | nil => exact .nil
    | nz a cap => exact .nz a cap
    | sl id g s k a m c o ho hg hp => exact .sl _ _ _ _ _ _ _ o ho hg hp
    | agg c vs hn hr =>
      simp only [flatV, List.all_eq_true] at h
      exact .agg _ _ hn fun j x v hj hv => flatV_rel n (h x (List.mem_of_getElem? hj)) (hr j x v hj hv)
    | tup c vs hn hr =>
      simp only [flatV, List.all_eq_true] at h
      exact .tup _ _ hn fun j x v hj hv => flatV_rel n (h x (List.mem_of_getElem? hj)) (hr j x v hj hv)
    | _ => simp [flatV] at h
theorem flatOb_holds {p : Option Pl} {o : Ob} (hf : flatOb o = true) (h : Holds β σ w Z p o) : Holds β σ w Z' p o := by
  cases o with
  | arr lv g sz es =>
    simp only [flatOb, List.all_eq_true] at hf
    obtain ⟨h1, h2⟩ := h
    refine ⟨h1, ?_⟩
    cases p with
    | none => exact h2
    | some q =>
      obtain ⟨h3, h4, h5, h6⟩ := h2
      refine ⟨h3, h4, h5, fun i j e x hi hj => ?_⟩
      obtain ⟨v, h7, h8, h9⟩ := h6 i j e x hi hj
      exact ⟨v, h7, h8, flat_rel 4 (hf e (List.mem_of_getElem? hi) x (List.mem_of_getElem? hj)) h9⟩
  | _ => simp [flatOb] at hf

theorem nil_ids : IdsOk σ 0 [] := ⟨by simp, by simp, by simp⟩

theorem callF_sound (hS : SOK P S) (hw : WR B β σ w) {g : FuncId} {ys : List PV} {vals : List Value} {o : VO}
    (h : S.f g (ys.map (ren (toNew σ 0 []) 5)) (canonSt σ 0 []) = some (o, τ2)) (hf : flatO o τ2 = true) (hv : VRelL β σ w (fun b => b < w.heap.size) ys vals) :
    Called P g vals.toArray w fun e w' => ∃ β', Mv B β σ w β' (putB σ [] [] τ2 σ) w' ∧ VORel B β' (putB σ [] [] τ2 σ) w' (backV σ [] o) e := by
  have ho : IdsOk σ 0 [] := nil_ids
  have hno : ∀ b, ¬ Own (btN β 0 []) (canonSt σ 0 []) b := by
    rintro b ⟨id, o, p, h1, _⟩; simp [canonSt] at h1
  have hzs : ∀ b, b < w.heap.size → Zc ⟨btN β 0 [], canonSt σ 0 [], w, fun b => b < w.heap.size⟩ (btN β 0 []) (canonSt σ 0 []) w b := fun b hb => ⟨.inl hb, hno b, hb⟩
  have hwr : WR ⟨btN β 0 [], canonSt σ 0 [], w, fun b => b < w.heap.size⟩ (btN β 0 []) (canonSt σ 0 []) w :=
    ⟨⟨by simp [canonSt], by simp [canonSt]⟩, Nat.le_refl _, fun _ _ _ => rfl, fun _ h => .inl h, Ext.refl _ _, ⟨rfl, rfl, rfl⟩, Plc.refl _ _ _⟩
  have hc := hS.f g _ _ _ (canonSt σ 0 []).length h ⟨btN β 0 [], canonSt σ 0 [], w, fun b => b < w.heap.size⟩ (btN β 0 []) w vals rfl hwr (hv.ren (toNew_valid (Nat.zero_le _)) hzs 5)
  refine hc.mono ?_
  rintro e w' ⟨o', τ', β', he, hm, hr⟩
  cases he
  have hfl : ∀ o ∈ τ2, flatOb o = true := by
    cases o <;> (simp only [flatO, Bool.and_eq_true, List.all_eq_true] at hf; exact hf.2)
  obtain ⟨h1, h2⟩ := merge_mv hw ho hm.wr (fun Zm _ _ k o hk => flatOb_holds (hfl o (List.mem_of_getElem? hk)) (hm.wr.inv.holds k o hk))
  refine ⟨_, h1, ?_⟩
  cases o with
  | ret x =>
    cases e with
    | returned v =>
      simp only [flatO, Bool.and_eq_true] at hf
      exact VRel.ren (toOld_valid ho (by simp)) (fun _ h => h) 5 (flatV_rel 5 hf.1 hr)
    | _ => exact hr.elim
  | pan x =>
    cases e with
    | panicked ch =>
      simp only [flatO, Bool.and_eq_true] at hf
      obtain ⟨v, rfl, hd⟩ := hr
      exact ⟨v, rfl, flat_rel 4 hf.1 hd⟩
    | _ => exact hr.elim

/-- One of several values is told as data, for good. -/
theorem closed_relL (h : WR B β σ w) {l : List Nat} (hnew : ∀ id ∈ l, B.σ.length ≤ id) {x : PV} {v : Value} {y : D} (hx : ∀ id ∈ VL.ids σ 5 x, id ∈ l) (hy : toD σ 5 x = some y) (hv : VRel β σ w (Zc B β σ w) x v) :
    DRel w (Zc B β (l.foldl frz1 σ) w) y v := by
  obtain ⟨hm, hl⟩ := frzs_sound l σ h
  refine toD_gen h hm.zc 5 x v y hy hv (fun id hid o q ho ha hq => ?_)
  have hid : id ∈ l := hx id hid
  have hlt := Inv.lt h ho ha hq
  obtain ⟨o', ho', ha', hl', _⟩ := hl id o ho
  have hlf := hl' hid
  refine ⟨?_, fun hown => ?_, hlt⟩
  · rcases h.place id o q ho ha hq with h1 | ⟨o0, q0, h1, _⟩
    · exact .inr h1
    · have := get_lt h1; have := hnew id hid; omega
  · obtain ⟨j, oj, p, hj, hlj, hp, hb⟩ := hown
    by_cases e : j = id
    · subst e
      rw [ho'] at hj
      cases hj; rw [hlf] at hlj; simp at hlj
    · exact hm.wr.inv.apart j oj id o' p q hj ho' hlj (by rw [ha', ha]) e hp hq hb
theorem closed_rel (h : WR B β σ w) {cl : List PV} (hnew : ∀ id ∈ idsL σ cl, B.σ.length ≤ id) {x : PV} {v : Value} {y : D} (hx : x ∈ cl) (hy : toD σ 5 x = some y) (hv : VRel β σ w (Zc B β σ w) x v) :
    DRel w (Zc B β (frzL σ cl) w) y v := closed_relL h hnew (fun _ hid => List.mem_flatMap.2 ⟨x, hx, hid⟩) hy hv

theorem closeA_cons {own : List Nat} {k : Nat} {x : PV} {l ys : List PV} (h : closeA σ own k (x :: l) = some ys) :
    (∃ y ys', ys = .d y :: ys' ∧ toD σ 5 x = some y ∧ closeA σ own (k + 1) l = some ys' ∧ closedA own k (x :: l) = x :: closedA own (k + 1) l) ∨
    (∃ ys', ys = x :: ys' ∧ closeA σ own (k + 1) l = some ys' ∧ closedA own k (x :: l) = closedA own (k + 1) l) := by
  simp only [closeA] at h
  cases x with
  | ptr a b c e =>
    simp only at h
    cases hq : closeA σ own (k + 1) l with
    | none => rw [hq] at h; simp at h
    | some r => rw [hq] at h; simp at h; exact .inr ⟨r, h.symm, rfl, by simp [closedA]⟩
  | _ =>
    simp only at h
    by_cases hk : k ∈ own
    · rw [if_pos hk] at h
      cases hq : closeA σ own (k + 1) l with
      | none => rw [hq] at h; simp at h
      | some r => rw [hq] at h; simp at h; exact .inr ⟨r, h.symm, rfl, by simp [closedA, hk]⟩
    · rw [if_neg hk] at h
      split at h
      · rename_i y hy
        cases hq : closeA σ own (k + 1) l with
        | none => rw [hq] at h; simp at h
        | some r => rw [hq] at h; simp at h; exact .inl ⟨y, r, h.symm, hy, rfl, by simp [closedA, hk]⟩
      · simp at h

theorem closeA_rel {own : List Nat} {β' : Bt} {σ' : St} {cl : List PV} : ∀ (xs : List PV) (k : Nat) (ys : List PV) (vals : List Value), closeA σ own k xs = some ys → (∀ x ∈ closedA own k xs, x ∈ cl) →
    (∀ x v y, x ∈ cl → toD σ 5 x = some y → VRel β σ w Z x v → DRel w Z' y v) → (∀ x v, VRel β σ w Z x v → VRel β' σ' w Z' x v) → VRelL β σ w Z xs vals → VRelL β' σ' w Z' ys vals
  | [], k, ys, vals, h, _, _, _, hv => by
    simp only [closeA, Option.some.injEq] at h; subst h
    exact ⟨hv.1, fun j x v hj => by simp at hj⟩
  | x :: l, k, ys, vals, h, hcl, hd, hx, hv => by
    cases vals with
    | nil => exact absurd hv.1 (by simp)
    | cons v vals =>
      have hv0 := hv.2 0 x v rfl rfl
      have hvl : VRelL β σ w Z l vals := ⟨by simpa using hv.1, fun j y u hj hu => hv.2 (j + 1) y u (by simpa using hj) (by simpa using hu)⟩
      rcases closeA_cons h with ⟨y, ys', rfl, h1, h2, h3⟩ | ⟨ys', rfl, h2, h3⟩
      · have ih := closeA_rel l (k + 1) ys' vals h2 (fun z hz => hcl z (by rw [h3]; exact List.mem_cons_of_mem _ hz)) hd hx hvl
        refine ⟨by simp [ih.1], fun j z u hj hu => ?_⟩
        cases j with
        | zero => simp at hj hu; subst hj; subst hu; exact .d _ _ (hd x _ y (hcl x (by rw [h3]; simp)) h1 hv0)
        | succ j => simp at hj hu; exact ih.2 j z u hj hu
      · have ih := closeA_rel l (k + 1) ys' vals h2 (fun z hz => hcl z (by rw [h3]; exact hz)) hd hx hvl
        refine ⟨by simp [ih.1], fun j z u hj hu => ?_⟩
        cases j with
        | zero => simp at hj hu; subst hj; subst hu; exact hx x _ hv0
        | succ j => simp at hj hu; exact ih.2 j z u hj hu

theorem toNew_nil {σ σ' : St} : toNew σ 0 [] = toNew σ' 0 [] := by
  funext id g; simp [toNew, posOf]
theorem canonSt_nil : canonSt σ 0 [] = [] := by simp [canonSt]

theorem ecall_sound (hS : SOK P S) {H : Hints} {m : Nat} {g : FuncId} {xs : List PV} {r : VO × St} (h : ecall H S m g xs σ = some r) : PCalls P m g xs σ (Ex r) := by
  intro B β w vals hm hw hv
  subst hm
  unfold ecall at h
  cases hys : closeA σ (H.own g) 0 xs with
  | none => rw [hys] at h; simp [ecall1] at h
  | some ys =>
  rw [hys] at h
  simp only [ecall1] at h
  generalize hcl : closedA (H.own g) 0 xs = cl at h
  -- with what is closed written no more
  have froz : (idsL σ cl).all (fun j => decide (B.σ.length ≤ j)) = true → Mv B β σ w β (frzL σ cl) w ∧ VRelL β (frzL σ cl) w (Zc B β (frzL σ cl) w) ys vals := by
    intro hall
    have hnew : ∀ id ∈ idsL σ cl, B.σ.length ≤ id := fun id hid => of_decide_eq_true (List.all_eq_true.1 hall id hid)
    obtain ⟨hmv, -⟩ := frzs_sound (idsL σ cl) σ hw
    refine ⟨hmv, closeA_rel xs 0 ys vals hys (fun x hx => by rw [← hcl]; exact hx) (fun x v y hx hy hv => closed_rel hw hnew hx hy hv) (fun x v hv => hmv.vrel hv) hv⟩
  have done : ∀ {σ1 : St} {ids : List Nat} {o : VO} {τ' : St}, Mv B β σ w β σ1 w → r = (backV σ1 ids o, putB σ1 ids ids τ' σ1) →
      (Called P g vals.toArray w fun e w' => ∃ β', Mv B β σ1 w β' (putB σ1 ids ids τ' σ1) w' ∧ VORel B β' (putB σ1 ids ids τ' σ1) w' (backV σ1 ids o) e) →
      Called P g vals.toArray w fun e w' => ∃ o σ' β', Ex r o σ' ∧ Mv B β σ w β' σ' w' ∧ VORel B β' σ' w' o e := by
    intro σ1 ids o τ' hmv hr hc
    refine hc.mono ?_
    rintro e w' ⟨β', h1, h2⟩
    exact ⟨_, _, β', hr.symm, hmv.trans h1, h2⟩
  unfold ecall2 at h
  by_cases hre : reach σ 0 ys = []
  · rw [if_pos hre] at h
    cases hf : S.f g (canon σ 0 ys).1 (canon σ 0 ys).2 with
    | none => rw [hf] at h; simp [callF] at h
    | some q =>
      obtain ⟨o, τ'⟩ := q
      rw [hf] at h
      simp only [callF] at h
      have hcan : canon σ 0 ys = (ys.map (ren (toNew σ 0 []) 5), canonSt σ 0 []) := by simp only [canon, hre]
      rw [hcan] at hf
      by_cases hfl : flatO o τ' = true
      · rw [if_pos hfl] at h
        simp only [mergeO, Option.some.injEq] at h
        refine done (Mv.refl hw) h.symm (callF_sound hS hw hf hfl ?_)
        refine closeA_rel (cl := cl) xs 0 ys vals hys (fun x hx => by rw [← hcl]; exact hx) (fun x v y _ hy hv => toD_rel hw 5 x v y hy hv) (fun x v hv => hv.mono (Ext.refl _ _) (fun _ _ _ _ h => h) (fun b hb => hb.2.2)) hv
      · rw [if_neg hfl] at h
        split at h
        · rename_i hall
          simp only [mergeO, Option.some.injEq] at h
          obtain ⟨h1, h2⟩ := froz hall
          refine done h1 h.symm (callI_sound hS h1.wr nil_ids ?_ h2)
          rw [toNew_nil (σ' := σ), canonSt_nil]
          rw [canonSt_nil] at hf; exact hf
        · simp at h
  · rw [if_neg hre] at h
    split at h
    · rename_i hall
      obtain ⟨h1, h2⟩ := froz hall
      simp only [callB] at h
      cases hf : S.f g (canon (frzL σ cl) 0 ys).1 (canon (frzL σ cl) 0 ys).2 with
      | none => rw [hf] at h; simp [mergeO] at h
      | some q =>
        obtain ⟨o, τ'⟩ := q
        rw [hf] at h
        simp only [mergeO, Option.some.injEq] at h
        exact done h1 h.symm (callI_sound hS h1.wr reach_ok hf h2)
    · simp at h

theorem edcall_sound (hS : SOK P S) {m : Nat} {x : DV} {md : Option D} {r : Option D × St} (h : edcall S x σ md = some r) : PDefs P m x σ md (ExD r) := by
  intro B β w va ca u hm hw hva hca hmd
  unfold edcall at h
  generalize hids : reach σ 0 (x.captured ++ x.args) = ids at h
  have ho : IdsOk σ 0 ids := by rw [← hids]; exact reach_ok
  have hcan : canon σ 0 (x.captured ++ x.args) = ((x.captured ++ x.args).map (ren (toNew σ 0 ids) 5), canonSt σ 0 ids) := by simp only [canon, hids]
  rw [hcan] at h
  cases hf : S.d ⟨x.f, ((x.captured ++ x.args).map (ren (toNew σ 0 ids) 5)).take x.captured.length, ((x.captured ++ x.args).map (ren (toNew σ 0 ids) 5)).drop x.captured.length⟩ (canonSt σ 0 ids) md with
  | none => simp only [hf, mergeD] at h; simp at h
  | some q =>
    obtain ⟨md', τ2⟩ := q
    simp only [hf, mergeD, Option.some.injEq] at h
    rw [List.map_append, List.take_left' (by simp), List.drop_left' (by simp)] at hf
    have hmd' : ModeRel ⟨btN β 0 ids, canonSt σ 0 ids, w, Zc B β σ w⟩ (btN β 0 ids) (canonSt σ 0 ids) w md u := by
      cases md with
      | none => cases u <;> first | exact hmd.elim | trivial
      | some y =>
        cases u with
        | panicking ch => obtain ⟨v, h1, h2⟩ := hmd; exact ⟨v, h1, h2.mono (fun _ _ _ _ h => h) (zc_sub ho)⟩
        | _ => exact hmd.elim
    obtain ⟨h1, h2⟩ := hS.d _ _ _ _ (canonSt σ 0 ids).length hf ⟨btN β 0 ids, canonSt σ 0 ids, w, Zc B β σ w⟩ (btN β 0 ids) w va ca u rfl (small_wr hw ho) (hva.ren (toNew_valid (Nat.zero_le _)) (zc_sub ho) 5) (hca.ren (toNew_valid (Nat.zero_le _)) (zc_sub ho) 5) hmd'
    refine ⟨h1, h2.mono ?_⟩
    have fin : ∀ (u' : FrameMode) (w' : World), (∃ md0 σ0 β0, ExD (md', τ2) md0 σ0 ∧ Mv ⟨btN β 0 ids, canonSt σ 0 ids, w, Zc B β σ w⟩ (btN β 0 ids) (canonSt σ 0 ids) w β0 σ0 w' ∧ ModeRel ⟨btN β 0 ids, canonSt σ 0 ids, w, Zc B β σ w⟩ β0 σ0 w' md0 u') →
        ∃ md0 σ0 β0, ExD r md0 σ0 ∧ Mv B β σ w β0 σ0 w' ∧ ModeRel B β0 σ0 w' md0 u' := by
      rintro u' w' ⟨md0, σ0, β0, he, hm0, hd0⟩
      cases he
      obtain ⟨h3, h4⟩ := merge_mv hw ho hm0.wr (fun Zm _ h2 k o hk => (hm0.wr.inv.holds k o hk).mono (Ext.refl _ _) (fun _ _ _ _ h => h) h2 (fun _ _ _ => rfl))
      refine ⟨md', _, _, h, h3, ?_⟩
      cases md' with
      | none => cases u' <;> first | exact hd0.elim | trivial
      | some y =>
        cases u' with
        | panicking ch => obtain ⟨v, h1, h2⟩ := hd0; exact ⟨v, h1, h2.mono (fun _ _ _ _ h => h) h4⟩
        | _ => exact hd0.elim
    intro e u' w' hR
    cases e with
    | returned v => exact fin _ w' hR
    | panicked ch => exact fin _ w' hR
    | outgrown => exact hR.elim
end
end Go.VL
namespace Go.VL
open Go

section
variable {P : Program} {B : Base} {β β2 : Bt} {σ τ τ2 : St} {w w' : World} {Z Z' Z1 : Nat → Prop} {ids : List Nat} {S : Ora} {N : Nat} {H : Hints}

/-! Own rows in place of nils -/
theorem matC_get : ∀ (c : List PV) (h : List (Option Nat)) (σ : St) {id : Nat} {o : Ob}, σ[id]? = some o → (matC c h σ).2[id]? = some o
  | [], h, σ, id, o, hi => by cases h <;> simpa [matC] using hi
  | x :: c, [], σ, id, o, hi => by cases x <;> simpa [matC] using hi
  | x :: c, hh :: h, σ, id, o, hi => by
    have k1 := matC_get c h σ hi
    have k2 : ∀ sz, (matC c h (σ ++ [.arr true 0 sz []])).2[id]? = some o := fun sz => matC_get c h _ (by rw [List.getElem?_append_left (get_lt hi)]; exact hi)
    cases x <;> cases hh <;> simp only [matC] <;> first | exact k1 | exact k2 _

theorem VRelL.cons {x : PV} {v : Value} {xs : List PV} {vs : List Value} (h : VRel β σ w Z x v) (h' : VRelL β σ w Z xs vs) : VRelL β σ w Z (x :: xs) (v :: vs) := by
  refine ⟨by simp [h'.1], fun j y u hj hu => ?_⟩
  cases j with
  | zero => simp at hj hu; subst hj; subst hu; exact h
  | succ j => simp at hj hu; exact h'.2 j y u hj hu
theorem VRelL.head {x : PV} {v : Value} {xs : List PV} {vs : List Value} (h : VRelL β σ w Z (x :: xs) (v :: vs)) : VRel β σ w Z x v := h.2 0 x v rfl rfl
theorem VRelL.tail {x : PV} {v : Value} {xs : List PV} {vs : List Value} (h : VRelL β σ w Z (x :: xs) (v :: vs)) : VRelL β σ w Z xs vs :=
  ⟨by simpa using h.1, fun j y u hj hu => h.2 (j + 1) y u (by simpa using hj) (by simpa using hu)⟩

theorem nil_val {v : Value} (h : VRel β σ w Z .nil v) : v = .slice none 0 0 := by cases h; rfl
theorem newNil_val (sz : Nat) : VRel (nextBt β σ.length none) (σ ++ [.arr true 0 sz []]) w Z (.sl σ.length 0 0 0) (.slice none 0 0) := by
  refine .sl _ _ _ _ _ _ _ (.arr true 0 sz []) (by simp) (Nat.le_refl _) (fun _ _ => ?_)
  simp [nextBt, SlPlace]

theorem matC_sound : ∀ (c : List PV) (h : List (Option Nat)) (σ : St) (β : Bt) (vs : List Value), WR B β σ w → VRelL β σ w (Zc B β σ w) c vs →
    ∃ β', Mv B β σ w β' (matC c h σ).2 w ∧ VRelL β' (matC c h σ).2 w (Zc B β' (matC c h σ).2 w) (matC c h σ).1 vs
  | [], h, σ, β, vs, hw, hv => by
    have : matC [] h σ = ([], σ) := by cases h <;> simp [matC]
    rw [this]; exact ⟨β, Mv.refl hw, hv⟩
  | x :: c, [], σ, β, vs, hw, hv => by
    have : matC (x :: c) [] σ = (x :: c, σ) := by cases x <;> simp [matC]
    rw [this]; exact ⟨β, Mv.refl hw, hv⟩
  | x :: c, hh :: h, σ, β, v :: vs, hw, hv => by
    have keep : ∃ β', Mv B β σ w β' (matC c h σ).2 w ∧ VRelL β' (matC c h σ).2 w (Zc B β' (matC c h σ).2 w) (x :: (matC c h σ).1) (v :: vs) := by
      obtain ⟨β', h1, h2⟩ := matC_sound c h σ β vs hw hv.tail
      exact ⟨β', h1, .cons (h1.vrel hv.head) h2⟩
    cases x with
    | nil =>
      cases hh with
      | none => simp only [matC]; exact keep
      | some sz =>
        simp only [matC]
        have h1 := Mv.newNil hw sz
        obtain ⟨β', h2, h3⟩ := matC_sound c h _ _ vs h1.wr (VRelL.mono' h1 hv.tail)
        refine ⟨β', h1.trans h2, .cons ?_ h3⟩
        rw [nil_val hv.head]
        exact h2.vrel (newNil_val sz)
    | _ => cases hh <;> (simp only [matC]; exact keep)
  | x :: c, hh :: h, σ, β, [], hw, hv => absurd hv.1 (by simp)

theorem matV_sound {x : PV} {h : List (Option Nat)} {v : Value} (hw : WR B β σ w) (hv : VRel β σ w (Zc B β σ w) x v) :
    ∃ β', Mv B β σ w β' (matV σ x h).2 w ∧ VRel β' (matV σ x h).2 w (Zc B β' (matV σ x h).2 w) (matV σ x h).1 v := by
  unfold matV
  split
  · rename_i sz
    refine ⟨_, Mv.newNil hw sz, ?_⟩
    rw [nil_val hv]; exact newNil_val sz
  · exact ⟨β, Mv.refl hw, hv⟩

theorem mat1_sound {x : PV} {h : List (Option Nat)} {v : Value} (hw : WR B β σ w) (hv : VRel β σ w (Zc B β σ w) x v) :
    ∃ β', Mv B β σ w β' (mat1 σ x h).2 w ∧ VRel β' (mat1 σ x h).2 w (Zc B β' (mat1 σ x h).2 w) (mat1 σ x h).1 v := by
  unfold mat1
  split
  · exact ⟨β, Mv.refl hw, hv⟩
  · split
    · rename_i id g
      split
      · rename_i g' c ho
        split
        · rename_i hg
          subst hg
          obtain ⟨q, h1, h2, h3, h4, h5⟩ := hw.inv.holds id _ ho
          have hcells : ∃ vs : List Value, vs.length = c.length ∧ ∀ (j : Nat) (u : Value), vs[j]? = some u → cellAt w q.blk (q.base + j) = some u := by
            refine ⟨(List.range c.length).map fun j => (cellAt w q.blk (q.base + j)).getD undef, by simp, fun j u hj => ?_⟩
            rw [List.getElem?_map] at hj
            by_cases hl : j < c.length
            · rw [List.getElem?_range hl] at hj
              obtain ⟨v, h6, _⟩ := h5 j _ (List.getElem?_eq_getElem hl)
              simp [h6] at hj; subst hj; exact h6
            · rw [List.getElem?_eq_none (by simpa using hl)] at hj; simp at hj
          obtain ⟨vs, hl, hcl⟩ := hcells
          have hvs : VRelL β σ w (Zc B β σ w) c vs := by
            refine ⟨hl.symm, fun j x u hj hu => ?_⟩
            obtain ⟨v', h6, h7⟩ := h5 j x hj
            rw [hcl j u hu] at h6; cases h6; exact h7
          obtain ⟨β', h8, h9⟩ := matC_sound c h σ β vs hw hvs
          have ho2 := matC_get c h σ ho
          have hbe : β' id = β id := by
            obtain ⟨o', e1, -, e3⟩ := h8.ext id _ ho
            rw [ho2] at e1; cases e1
            exact (e3 rfl rfl).2
          refine ⟨β', h8.trans (Mv.mark h8.wr ho2 (Nat.le_refl _) (fun _ => rfl) (fun _ => rfl) fun hmv _ => ?_), ?_⟩
          · obtain ⟨q2, k1, k2, k3, k4, k5⟩ := h8.wr.inv.holds id _ ho2
            have hlen : (matC c h σ).1.length = c.length := by rw [h9.1, hl]
            refine ⟨q2, k1, by rw [hlen]; exact k2, by rw [hlen]; exact k3, k4, fun j x hj => ?_⟩
            have hjl : j < vs.length := by have := get_lt hj; omega
            refine ⟨vs[j], ?_, hmv (h9.2 j x _ hj (List.getElem?_eq_getElem hjl))⟩
            have : q2 = q := by rw [hbe, h1] at k1; cases k1; rfl
            subst this
            exact hcl j _ (List.getElem?_eq_getElem hjl)
          · refine VRel.mono (h8.vrel hv) (Ext.set ho2 (Nat.le_refl _) (fun _ => rfl)) (fun _ _ _ _ h => h) ?_
            intro b hb
            exact ⟨hb.1, fun hw => hb.2.1 (Own.set ho2 (fun _ => rfl) hw), hb.2.2⟩
        · exact ⟨β, Mv.refl hw, hv⟩
      · exact ⟨β, Mv.refl hw, hv⟩
    · exact matV_sound hw hv

theorem mats_sound : ∀ (xs : List PV) (hs : List (List (Option Nat))) (rest : List PV) (σ : St) (β : Bt) (vs us : List Value), WR B β σ w → VRelL β σ w (Zc B β σ w) xs vs → VRelL β σ w (Zc B β σ w) rest us →
    ∃ β', Mv B β σ w β' (mats σ xs hs).2 w ∧ VRelL β' (mats σ xs hs).2 w (Zc B β' (mats σ xs hs).2 w) (mats σ xs hs).1 vs ∧ VRelL β' (mats σ xs hs).2 w (Zc B β' (mats σ xs hs).2 w) rest us
  | [], hs, rest, σ, β, vs, us, hw, hv, hu => by
    have : mats σ [] hs = ([], σ) := by cases hs <;> simp [mats]
    rw [this]; exact ⟨β, Mv.refl hw, hv, hu⟩
  | x :: xs, [], rest, σ, β, vs, us, hw, hv, hu => by
    have : mats σ (x :: xs) [] = (x :: xs, σ) := by simp [mats]
    rw [this]; exact ⟨β, Mv.refl hw, hv, hu⟩
  | x :: xs, h :: hs, rest, σ, β, [], us, hw, hv, hu => absurd hv.1 (by simp)
  | x :: xs, h :: hs, rest, σ, β, v :: vs, us, hw, hv, hu => by
    obtain ⟨β1, h1, h2⟩ := mat1_sound (h := h) hw hv.head
    obtain ⟨β2, h3, h4, h5⟩ := mats_sound xs hs rest _ β1 vs us h1.wr (VRelL.mono' h1 hv.tail) (VRelL.mono' h1 hu)
    simp only [mats]
    exact ⟨β2, h1.trans h3, .cons (h3.vrel h2) h4, h5⟩

/-! A loop's head -/
theorem lookup_zip : ∀ (ts : List Tmp) (ys : List PV) (t : Tmp) (y : PV), (ts.zip ys).lookup t = some y → ∃ j : Nat, ts[j]? = some t ∧ ys[j]? = some y
  | [], ys, t, y, h => by simp at h
  | a :: ts, [], t, y, h => by simp at h
  | a :: ts, b :: ys, t, y, h => by
    rw [List.zip_cons_cons, List.lookup_cons] at h
    by_cases e : t = a
    · subst e; simp at h; subst h; exact ⟨0, rfl, rfl⟩
    · have : (t == a) = false := by simpa using e
      rw [this] at h
      obtain ⟨j, h1, h2⟩ := lookup_zip ts ys t y h
      exact ⟨j + 1, by simpa using h1, by simpa using h2⟩

theorem VRelL.split {xs ys : List PV} {vs : List Value} (h : VRelL β σ w Z (xs ++ ys) vs) : VRelL β σ w Z xs (vs.take xs.length) ∧ VRelL β σ w Z ys (vs.drop xs.length) := by
  have hl := h.1
  simp only [List.length_append] at hl
  refine ⟨⟨by simp; omega, fun j x v hj hv => ?_⟩, ⟨by simp; omega, fun j x v hj hv => ?_⟩⟩
  · have := get_lt hj
    rw [List.getElem?_take, if_pos this] at hv
    exact h.2 j x v (by rw [List.getElem?_append_left this]; exact hj) hv
  · rw [List.getElem?_drop] at hv
    exact h.2 _ x v (by rw [List.getElem?_append_right (by omega), Nat.add_sub_cancel_left]; exact hj) hv
theorem VRelL.take {xs : List PV} {vs : List Value} (n : Nat) (h : VRelL β σ w Z xs vs) : VRelL β σ w Z (xs.take n) (vs.take n) := by
  refine ⟨by simp [h.1], fun j x v hj hv => ?_⟩
  rw [List.getElem?_take] at hj hv
  split at hj
  · rename_i hn; rw [if_pos hn] at hv; exact h.2 j x v hj hv
  · simp at hj
theorem VRelL.drop {xs : List PV} {vs : List Value} (n : Nat) (h : VRelL β σ w Z xs vs) : VRelL β σ w Z (xs.drop n) (vs.drop n) := by
  refine ⟨by simp [h.1], fun j x v hj hv => ?_⟩
  rw [List.getElem?_drop] at hj hv
  exact h.2 _ x v hj hv

theorem df_flat : ∀ (df : List DV) (defers : List Deferred), df.length = defers.length → (∀ (j : Nat) (x : DV) (d : Deferred), df[j]? = some x → defers[j]? = some d → DVRel β σ w Z x d) →
    ∃ us, VRelL β σ w Z (flatDf df) us ∧ ∀ {β' : Bt} {σ' : St} {w' : World} {Z' : Nat → Prop} (ys : List PV), VRelL β' σ' w' Z' ys us → (unflatDf df ys).length = df.length ∧
      ∀ (j : Nat) (x : DV) (d : Deferred), (unflatDf df ys)[j]? = some x → defers[j]? = some d → DVRel β' σ' w' Z' x d
  | [], [], _, _ => ⟨[], ⟨rfl, by simp [flatDf]⟩, fun ys hy => ⟨rfl, by simp [unflatDf]⟩⟩
  | [], _ :: _, h, _ => absurd h (by simp)
  | _ :: _, [], h, _ => absurd h (by simp)
  | x :: df, d :: defers, hl, h => by
    obtain ⟨us, h1, h2⟩ := df_flat df defers (by simpa using hl) (fun j y e hj he => h (j + 1) y e (by simpa using hj) (by simpa using he))
    obtain ⟨va, ca, e1, e2, r1, r2⟩ := h 0 x d rfl rfl
    refine ⟨ca ++ va ++ us, ?_, fun ys hy => ?_⟩
    · have : flatDf (x :: df) = x.captured ++ x.args ++ flatDf df := by simp [flatDf]
      rw [this]; exact (r1.append r2).append h1
    · have l1 := r1.1
      have l2 := r2.1
      have hd := hy.drop (x.captured.length + x.args.length)
      have e3 : (ca ++ va ++ us).drop (x.captured.length + x.args.length) = us := by rw [List.drop_left' (by simp; omega)]
      rw [e3] at hd
      obtain ⟨h3, h4⟩ := h2 _ hd
      refine ⟨by simp [unflatDf, h3], fun j y e hj he => ?_⟩
      cases j with
      | zero =>
        simp [unflatDf] at hj he; subst hj; subst he
        refine ⟨va, ca, e1, e2, ?_, ?_⟩
        · have := hy.take x.captured.length
          rw [List.append_assoc, List.take_left' (by omega)] at this; exact this
        · have := (hy.drop x.captured.length).take x.args.length
          rw [List.append_assoc, List.drop_left' (by omega), List.take_left' (by omega)] at this; exact this
      | succ j => simp [unflatDf] at hj he; exact h4 j y e hj he

theorem canonS_sound {m : Nat} {lv : List (Tmp × List (Option Nat))} {s s' : VS} (h : canonS m lv s = some s') : SWk m s s' := by
  intro B β w a N hm hw ha
  simp only [canonS, Option.some.injEq] at h
  have hlv : VRelL β s.σ w (Zc B β s.σ w) (lv.map fun t => s.env t.1) (lv.map fun t => a.tmps.getD t.1 undef) := by
    refine ⟨by simp, fun j x v hj hv => ?_⟩
    rw [List.getElem?_map] at hj hv
    cases hc : lv[j]? with
    | none => rw [hc] at hj; simp at hj
    | some t => rw [hc] at hj hv; simp at hj hv; subst hj; rw [← hv]; simpa using ha.env t.1
  obtain ⟨us, hus, hback⟩ := df_flat s.df a.defers ha.dfl ha.df
  obtain ⟨β1, h1, h2, h3⟩ := mats_sound (lv.map fun t => s.env t.1) (lv.map (·.2)) (flatDf s.df) s.σ β _ us hw hlv hus
  obtain ⟨β2, h4, h5, -⟩ := SW.canon (m := m) (xs := (mats s.σ (lv.map fun t => s.env t.1) (lv.map (·.2))).1 ++ flatDf s.df) B β1 w _ hm h1.wr (h2.append h3)
  subst h
  refine ⟨β2, h4, ha.size, fun t => ?_, ?_, ?_⟩
  · show VRel _ _ _ _ (mkE _ t) _
    unfold mkE
    cases hl : List.lookup t ((lv.map (·.1)).zip (canon (mats s.σ (lv.map fun t => s.env t.1) (lv.map (·.2))).2 m ((mats s.σ (lv.map fun t => s.env t.1) (lv.map (·.2))).1 ++ flatDf s.df)).1) with
    | none => exact .any _
    | some y =>
      obtain ⟨j, e1, e2⟩ := lookup_zip _ _ _ _ hl
      rw [List.getElem?_map] at e1
      cases hc : lv[j]? with
      | none => rw [hc] at e1; simp at e1
      | some q =>
        rw [hc] at e1; simp at e1
        refine h5.2 j y _ e2 ?_
        rw [List.getElem?_append_left (by simpa using get_lt hc), List.getElem?_map, hc, ← e1]; rfl
  · have hd := h5.drop lv.length
    rw [List.drop_left' (by simp)] at hd
    rw [← ha.dfl]; exact (hback _ hd).1
  · have hd := h5.drop lv.length
    rw [List.drop_left' (by simp)] at hd
    exact (hback _ hd).2
end
end Go.VL
