/- V-logic, part A: plain values, the relation between them and the machine's memory, what stays as memory grows. -/
import Derived.Orders
import Derived.Recover
import Derived.Laws.Sem
import Derived.Laws.World
import Derived.Laws.NewFold
import Derived.Laws.CopyRow
import Derived.Laws.Append
import Derived.Laws.FloatArith
import Derived.Laws.Entries
import Derived.Laws.MakeOwn
import Derived.Laws.Strings
namespace Go.VL
open Go

/-- Data: values without a place of their own. A frozen slice 'fz' is its elements, each its cells. -/
inductive D where
  | bool (b : Bool)
  | int (k : IntKind) (n : Int)
  | flt (b : Nat)
  | str (s : List UInt8)
  | fz (l : List (List D))
  | nilp
  | fp (c : List D)
  | agg (c : List D)
  | fn (f : Fn) (first captured : List D)
  | nilf
  | ifc (t : TypeId) (v : D)
  | nili

/-- Values that may have a place: 'nil' is the slice nil, 'nz' an empty one that is not nil; 'sl' is a part of an object's elements, 'ptr' a cell of it. -/
inductive PV where
  | any
  | d (x : D)
  | nil
  | nz
  | sl (id g s n : Nat)
  | ptr (id g i off : Nat)
  | agg (c : List PV)
  | tup (c : List PV)
  | fn (f : Fn) (first captured : List PV)

/-- An object: a row of elements (data), or one box of cells. 'lv': it may be written. -/
inductive Ob where
  | arr (lv : Bool) (g sz : Nat) (es : List (List D))
  | box (lv : Bool) (g : Nat) (c : List PV)
  | dead (g : Nat)

abbrev St := List Ob

def Ob.gen : Ob → Nat
  | .arr _ g _ _ => g
  | .box _ g _ => g
  | .dead g => g
def Ob.alive : Ob → Bool
  | .dead _ => false
  | _ => true
def Ob.live : Ob → Bool
  | .arr lv _ _ _ => lv
  | .box lv _ _ => lv
  | .dead _ => false

structure Pl where
  blk : Nat
  base : Nat
  sz : Nat
  tot : Nat

abbrev Bt := Nat → Option Pl

/-- A cell of a block of cells that nothing has frozen against writing or reading. -/
def cellAt (w : World) (b o : Nat) : Option Value := w.cell? ⟨b, o, none⟩

inductive DRel (w : World) (Z : Nat → Prop) : D → Value → Prop
  | bool (b : Bool) : DRel w Z (.bool b) (.bool b)
  | int (k : IntKind) (n : Int) : DRel w Z (.int k n) (.int k n)
  | flt (b : Nat) : DRel w Z (.flt b) (.float .f64 b)
  | str (l : List UInt8) (s : ByteArray) (h : s.data.toList = l) : DRel w Z (.str l) (.string s)
  | fz0 (a : Option Addr) (cap : Nat) (h0 : a = none → cap = 0) : DRel w Z (.fz []) (.slice a 0 cap)
  | fz (l : List (List D)) (b off cap sz : Nat) (f : Nat → Nat → Value) (hcap : l.length ≤ cap) (hsz : ∀ e ∈ l, e.length = sz) (hz : Z b)
      (hc : ∀ i j, i < l.length → j < sz → cellAt w b (off + i * sz + j) = some (f i j) ∧ (f i j).oneCell' = true)
      (hr : ∀ (i j : Nat) (e : List D) (x : D), l[i]? = some e → e[j]? = some x → DRel w Z x (f i j)) : DRel w Z (.fz l) (.slice (some ⟨b, off, none⟩) l.length cap)
  | nilp : DRel w Z .nilp (.pointer none)
  | fp (c : List D) (b off : Nat) (f : Nat → Value) (hz : Z b) (hc : ∀ j, j < c.length → cellAt w b (off + j) = some (f j))
      (hr : ∀ (j : Nat) (x : D), c[j]? = some x → DRel w Z x (f j)) : DRel w Z (.fp c) (.pointer (some ⟨b, off, none⟩))
  | agg (c : List D) (vs : List Value) (hn : c.length = vs.length) (hr : ∀ (j : Nat) (x : D) (v : Value), c[j]? = some x → vs[j]? = some v → DRel w Z x v) : DRel w Z (.agg c) (.agg vs.toArray)
  | fn (f : Fn) (a b : List D) (va vb : List Value) (ha : a.length = va.length) (hb : b.length = vb.length)
      (hra : ∀ (j : Nat) (x : D) (v : Value), a[j]? = some x → va[j]? = some v → DRel w Z x v) (hrb : ∀ (j : Nat) (x : D) (v : Value), b[j]? = some x → vb[j]? = some v → DRel w Z x v) :
      DRel w Z (.fn f a b) (.func f va.toArray vb.toArray)
  | nilf : DRel w Z .nilf .nilFunc
  | ifc (t : TypeId) (x : D) (v : Value) (h : DRel w Z x v) : DRel w Z (.ifc t x) (.iface t v)
  | nili : DRel w Z .nili .nilIface

/-- Data stay what they are where the blocks that they lie in stay. -/
theorem DRel.mono {w w' : World} {Z Z' : Nat → Prop} {x : D} {v : Value} (h : DRel w Z x v)
    (hk : ∀ b o u, Z b → cellAt w b o = some u → cellAt w' b o = some u) (hz : ∀ b, Z b → Z' b) : DRel w' Z' x v := by
  induction h with
  | bool b => exact .bool b
  | int k n => exact .int k n
  | flt b => exact .flt b
  | str l s h => exact .str l s h
  | fz0 a cap h0 => exact .fz0 a cap h0
  | fz l b off cap sz f hcap hsz hzb hc hr ih => exact .fz l b off cap sz f hcap hsz (hz b hzb) (fun i j hi hj => ⟨hk _ _ _ hzb (hc i j hi hj).1, (hc i j hi hj).2⟩) ih
  | nilp => exact .nilp
  | fp c b off f hzb hc hr ih => exact .fp c b off f (hz b hzb) (fun j hj => hk _ _ _ hzb (hc j hj)) ih
  | agg c vs hn hr ih => exact .agg c vs hn ih
  | fn f a b va vb ha hb hra hrb iha ihb => exact .fn f a b va vb ha hb iha ihb
  | nilf => exact .nilf
  | ifc t x v h ih => exact .ifc t x v ih
  | nili => exact .nili

/-- Where a part of an object lies. -/
def SlPlace (p : Option Pl) (s n : Nat) (v : Value) : Prop :=
  match p with
  | none => s = 0 ∧ n = 0 ∧ v = .slice none 0 0
  | some p => ∃ cap, v = .slice (some ⟨p.blk, p.base + s * p.sz, none⟩) n cap ∧ n ≤ cap ∧ p.base + (s + cap) * p.sz ≤ p.tot
def PtrPlace (p : Option Pl) (i off : Nat) (v : Value) : Prop :=
  ∃ q, p = some q ∧ v = .pointer (some ⟨q.blk, q.base + i * q.sz + off, none⟩)

inductive VRel (β : Bt) (σ : St) (w : World) (Z : Nat → Prop) : PV → Value → Prop
  | any (v : Value) : VRel β σ w Z .any v
  | d (x : D) (v : Value) (h : DRel w Z x v) : VRel β σ w Z (.d x) v
  | nil : VRel β σ w Z .nil (.slice none 0 0)
  | nz (a : Addr) (cap : Nat) : VRel β σ w Z .nz (.slice (some a) 0 cap)
  | sl (id g s n : Nat) (a : Option Addr) (m c : Nat) (o : Ob) (ho : σ[id]? = some o) (hg : g ≤ o.gen) (hp : o.gen = g → o.alive = true → SlPlace (β id) s n (.slice a m c)) : VRel β σ w Z (.sl id g s n) (.slice a m c)
  | ptr (id g i off : Nat) (a : Option Addr) (o : Ob) (ho : σ[id]? = some o) (hg : g ≤ o.gen) (hp : o.gen = g → o.alive = true → PtrPlace (β id) i off (.pointer a)) : VRel β σ w Z (.ptr id g i off) (.pointer a)
  | agg (c : List PV) (vs : List Value) (hn : c.length = vs.length) (hr : ∀ (j : Nat) (x : PV) (v : Value), c[j]? = some x → vs[j]? = some v → VRel β σ w Z x v) : VRel β σ w Z (.agg c) (.agg vs.toArray)
  | tup (c : List PV) (vs : List Value) (hn : c.length = vs.length) (hr : ∀ (j : Nat) (x : PV) (v : Value), c[j]? = some x → vs[j]? = some v → VRel β σ w Z x v) : VRel β σ w Z (.tup c) (.tuple vs.toArray)
  | fn (f : Fn) (a b : List PV) (va vb : List Value) (ha : a.length = va.length) (hb : b.length = vb.length)
      (hra : ∀ (j : Nat) (x : PV) (v : Value), a[j]? = some x → va[j]? = some v → VRel β σ w Z x v) (hrb : ∀ (j : Nat) (x : PV) (v : Value), b[j]? = some x → vb[j]? = some v → VRel β σ w Z x v) :
      VRel β σ w Z (.fn f a b) (.func f va.toArray vb.toArray)

/-- Objects only go on: their marks rise; one that keeps its mark keeps its place. -/
def Ext (β : Bt) (σ : St) (β' : Bt) (σ' : St) : Prop :=
  ∀ id o, σ[id]? = some o → ∃ o', σ'[id]? = some o' ∧ o.gen ≤ o'.gen ∧ (o'.gen = o.gen → o'.alive = true → o.alive = true ∧ β' id = β id)

theorem Ext.refl (β : Bt) (σ : St) : Ext β σ β σ := fun _ o h => ⟨o, h, Nat.le_refl _, fun _ h => ⟨h, rfl⟩⟩
theorem Ext.trans {β β' β'' : Bt} {σ σ' σ'' : St} (h : Ext β σ β' σ') (h' : Ext β' σ' β'' σ'') : Ext β σ β'' σ'' := by
  intro id o ho
  obtain ⟨o', ho', hg, hp⟩ := h id o ho
  obtain ⟨o'', ho'', hg', hp'⟩ := h' id o' ho'
  refine ⟨o'', ho'', Nat.le_trans hg hg', fun e hl => ?_⟩
  have e1 : o'.gen = o.gen := by omega
  have e2 : o''.gen = o'.gen := by omega
  obtain ⟨hl', hb'⟩ := hp' e2 hl
  obtain ⟨hl0, hb⟩ := hp e1 hl'
  exact ⟨hl0, hb'.trans hb⟩

theorem VRel.mono {β β' : Bt} {σ σ' : St} {w w' : World} {Z Z' : Nat → Prop} {x : PV} {v : Value} (h : VRel β σ w Z x v) (he : Ext β σ β' σ')
    (hk : ∀ b o u, Z b → cellAt w b o = some u → cellAt w' b o = some u) (hz : ∀ b, Z b → Z' b) : VRel β' σ' w' Z' x v := by
  induction h with
  | any v => exact .any v
  | d x v h => exact .d x v (h.mono hk hz)
  | nil => exact .nil
  | nz a cap => exact .nz a cap
  | sl id g s n a m c o ho hg hp =>
    obtain ⟨o', ho', hg', hp'⟩ := he id o ho
    refine .sl id g s n a m c o' ho' (Nat.le_trans hg hg') (fun e hl => ?_)
    have e1 : o.gen = g := by omega
    obtain ⟨hl0, hb⟩ := hp' (by omega) hl
    rw [hb]; exact hp e1 hl0
  | ptr id g i off a o ho hg hp =>
    obtain ⟨o', ho', hg', hp'⟩ := he id o ho
    refine .ptr id g i off a o' ho' (Nat.le_trans hg hg') (fun e hl => ?_)
    have e1 : o.gen = g := by omega
    obtain ⟨hl0, hb⟩ := hp' (by omega) hl
    rw [hb]; exact hp e1 hl0
  | agg c vs hn hr ih => exact .agg c vs hn ih
  | tup c vs hn hr ih => exact .tup c vs hn ih
  | fn f a b va vb ha hb hra hrb iha ihb => exact .fn f a b va vb ha hb iha ihb

/-- The blocks that may be written. -/
def Own (β : Bt) (σ : St) (b : Nat) : Prop := ∃ (id : Nat) (o : Ob) (p : Pl), σ[id]? = some o ∧ o.live = true ∧ β id = some p ∧ p.blk = b

/-- What an object's block holds. -/
def Holds (β : Bt) (σ : St) (w : World) (Z : Nat → Prop) (p : Option Pl) : Ob → Prop
  | .dead _ => True
  | .arr lv _ sz es => (∀ e ∈ es, e.length = sz) ∧ match p with
    | none => es = []
    | some p => p.sz = sz ∧ p.base + es.length * sz ≤ p.tot ∧ (∃ c T fz, w.heap[p.blk]? = some (.cells c T fz) ∧ c.size = p.tot ∧ (lv = true → fz = (0, 0))) ∧
      ∀ (i j : Nat) (e : List D) (x : D), es[i]? = some e → e[j]? = some x → ∃ v, cellAt w p.blk (p.base + i * sz + j) = some v ∧ v.oneCell' = true ∧ DRel w Z x v
  | .box lv _ c => ∃ q, p = some q ∧ q.sz = c.length ∧ q.base + c.length ≤ q.tot ∧ (∃ a T fz, w.heap[q.blk]? = some (.cells a T fz) ∧ a.size = q.tot ∧ (lv = true → fz = (0, 0))) ∧
      ∀ (j : Nat) (x : PV), c[j]? = some x → ∃ v, cellAt w q.blk (q.base + j) = some v ∧ VRel β σ w Z x v

structure Inv (β : Bt) (σ : St) (w : World) (Z : Nat → Prop) : Prop where
  holds : ∀ id o, σ[id]? = some o → Holds β σ w Z (β id) o
  apart : ∀ id o id' o' p p', σ[id]? = some o → σ[id']? = some o' → o.live = true → o'.alive = true → id ≠ id' → β id = some p → β id' = some p' → p.blk ≠ p'.blk
end Go.VL
namespace Go.VL
open Go

structure Base where
  β : Bt
  σ : St
  w : World
  Zp : Nat → Prop

/-- Blocks whose cells never change any more: those that came in so, those that are new; none that may be written. -/
def Zc (B : Base) (β : Bt) (σ : St) (w : World) (b : Nat) : Prop := (B.Zp b ∨ B.w.heap.size ≤ b) ∧ ¬ Own β σ b ∧ b < w.heap.size

/-- An object's block is a new one, or the one that it had. -/
def Plc (β : Bt) (σ : St) (n : Nat) (β' : Bt) (σ' : St) : Prop :=
  ∀ (id : Nat) (o' : Ob) (q' : Pl), σ'[id]? = some o' → o'.alive = true → β' id = some q' → n ≤ q'.blk ∨ ∃ o q, σ[id]? = some o ∧ o.alive = true ∧ β id = some q ∧ q.blk = q'.blk

theorem Plc.refl (β : Bt) (σ : St) (n : Nat) : Plc β σ n β σ := fun _ o q h1 h2 h3 => .inr ⟨o, q, h1, h2, h3, rfl⟩
theorem Plc.trans {β β' β'' : Bt} {σ σ' σ'' : St} {n n' : Nat} (hn : n ≤ n') (h : Plc β σ n β' σ') (h' : Plc β' σ' n' β'' σ'') : Plc β σ n β'' σ'' := by
  intro id o'' q'' h1 h2 h3
  rcases h' id o'' q'' h1 h2 h3 with h4 | ⟨o', q', h4, h5, h6, h7⟩
  · exact .inl (Nat.le_trans hn h4)
  · rcases h id o' q' h4 h5 h6 with h8 | ⟨o, q, h8, h9, h10, h11⟩
    · exact .inl (by omega)
    · exact .inr ⟨o, q, h8, h9, h10, h11.trans h7⟩

structure WR (B : Base) (β : Bt) (σ : St) (w : World) : Prop where
  inv : Inv β σ w (Zc B β σ w)
  size : B.w.heap.size ≤ w.heap.size
  keep : ∀ b, b < B.w.heap.size → ¬ Own B.β B.σ b → w.heap[b]? = B.w.heap[b]?
  own : ∀ b, Own β σ b → Own B.β B.σ b ∨ B.w.heap.size ≤ b
  ext : Ext B.β B.σ β σ
  rest : w.tape = B.w.tape ∧ w.os = B.w.os ∧ w.output = B.w.output
  place : Plc B.β B.σ B.w.heap.size β σ

structure Mv (B : Base) (β : Bt) (σ : St) (w : World) (β' : Bt) (σ' : St) (w' : World) : Prop where
  wr : WR B β' σ' w'
  ext : Ext β σ β' σ'
  cells : ∀ b o u, Zc B β σ w b → cellAt w b o = some u → cellAt w' b o = some u
  zc : ∀ b, Zc B β σ w b → Zc B β' σ' w' b

theorem Mv.refl {B : Base} {β : Bt} {σ : St} {w : World} (h : WR B β σ w) : Mv B β σ w β σ w := ⟨h, Ext.refl _ _, fun _ _ _ _ h => h, fun _ h => h⟩

theorem Mv.trans {B : Base} {β β' β'' : Bt} {σ σ' σ'' : St} {w w' w'' : World} (h : Mv B β σ w β' σ' w') (h' : Mv B β' σ' w' β'' σ'' w'') : Mv B β σ w β'' σ'' w'' :=
  ⟨h'.wr, h.ext.trans h'.ext, fun b o u hb hc => h'.cells b o u (h.zc b hb) (h.cells b o u hb hc), fun b hb => h'.zc b (h.zc b hb)⟩

theorem Mv.vrel {B : Base} {β β' : Bt} {σ σ' : St} {w w' : World} (h : Mv B β σ w β' σ' w') {x : PV} {v : Value} (hv : VRel β σ w (Zc B β σ w) x v) :
    VRel β' σ' w' (Zc B β' σ' w') x v := hv.mono h.ext h.cells h.zc
theorem Mv.drel {B : Base} {β β' : Bt} {σ σ' : St} {w w' : World} (h : Mv B β σ w β' σ' w') {x : D} {v : Value} (hv : DRel w (Zc B β σ w) x v) :
    DRel w' (Zc B β' σ' w') x v := hv.mono h.cells h.zc

theorem cellAt_congr {w w' : World} {b : Nat} (h : w'.heap[b]? = w.heap[b]?) (o : Nat) : cellAt w' b o = cellAt w b o := by
  simp only [cellAt, World.cell?, h]

theorem Mv.mk' {B : Base} {β β' : Bt} {σ σ' : St} {w w' : World} (h : WR B β σ w) (hsz : w.heap.size ≤ w'.heap.size)
    (hkeep : ∀ b, b < w.heap.size → ¬ Own β σ b → w'.heap[b]? = w.heap[b]?) (hown : ∀ b, Own β' σ' b → Own β σ b ∨ w.heap.size ≤ b)
    (hext : Ext β σ β' σ') (hrest : w'.tape = w.tape ∧ w'.os = w.os ∧ w'.output = w.output) (hpl : Plc β σ w.heap.size β' σ') (hinv : Inv β' σ' w' (Zc B β' σ' w')) : Mv B β σ w β' σ' w' := by
  have hz : ∀ b, Zc B β σ w b → Zc B β' σ' w' b := by
    rintro b ⟨h1, h2, h3⟩
    refine ⟨h1, fun ho => ?_, by omega⟩
    rcases hown b ho with h | h
    · exact h2 h
    · omega
  refine ⟨⟨hinv, Nat.le_trans h.size hsz, ?_, ?_, h.ext.trans hext, ?_, h.place.trans h.size hpl⟩, hext, ?_, hz⟩
  · intro b hb hn
    have hn' : ¬ Own β σ b := fun ho => by
      rcases h.own b ho with h | h
      · exact hn h
      · omega
    have := h.size
    rw [hkeep b (by omega) hn', h.keep b hb hn]
  · intro b ho
    rcases hown b ho with ho | ho
    · exact h.own b ho
    · have := h.size; exact .inr (by omega)
  · obtain ⟨a1, a2, a3⟩ := hrest; obtain ⟨b1, b2, b3⟩ := h.rest
    exact ⟨a1.trans b1, a2.trans b2, a3.trans b3⟩
  · rintro b o u ⟨h1, h2, h3⟩ hc
    rw [cellAt_congr (hkeep b h3 h2)]; exact hc

theorem Holds.mono {β β' : Bt} {σ σ' : St} {w w' : World} {Z Z' : Nat → Prop} {p : Option Pl} {o : Ob} (h : Holds β σ w Z p o) (he : Ext β σ β' σ')
    (hk : ∀ b o u, Z b → cellAt w b o = some u → cellAt w' b o = some u) (hz : ∀ b, Z b → Z' b)
    (hb : ∀ q, p = some q → o.alive = true → w'.heap[q.blk]? = w.heap[q.blk]?) : Holds β' σ' w' Z' p o := by
  cases o with
  | dead g => trivial
  | arr lv g sz es =>
    obtain ⟨h1, h2⟩ := h
    refine ⟨h1, ?_⟩
    cases p with
    | none => exact h2
    | some q =>
      obtain ⟨h3, h4, ⟨c, T, fz, h5, h6⟩, h7⟩ := h2
      have hq := hb q rfl rfl
      refine ⟨h3, h4, ⟨c, T, fz, hq.trans h5, h6⟩, fun i j e x hi hj => ?_⟩
      obtain ⟨v, hv, h1, hr⟩ := h7 i j e x hi hj
      exact ⟨v, (cellAt_congr hq _).trans hv, h1, hr.mono hk hz⟩
  | box lv g c =>
    obtain ⟨q, rfl, h3, h4, ⟨a, T, fz, h5, h6⟩, h7⟩ := h
    have hq := hb q rfl rfl
    refine ⟨q, rfl, h3, h4, ⟨a, T, fz, hq.trans h5, h6⟩, fun j x hj => ?_⟩
    obtain ⟨v, hv, hr⟩ := h7 j x hj
    exact ⟨v, (cellAt_congr hq _).trans hv, hr.mono he hk hz⟩

/-- An object that is alive lies in a block that is there. -/
theorem Holds.lt {β : Bt} {σ : St} {w : World} {Z : Nat → Prop} {q : Pl} {o : Ob} (h : Holds β σ w Z (some q) o) (ha : o.alive = true) : q.blk < w.heap.size := by
  have key : ∀ {x : Obj}, w.heap[q.blk]? = some x → q.blk < w.heap.size := by
    intro x hx
    rcases Nat.lt_or_ge q.blk w.heap.size with hl | hl
    · exact hl
    · simp [Array.getElem?_eq_none hl] at hx
  cases o with
  | dead g => simp [Ob.alive] at ha
  | arr lv g sz es => obtain ⟨_, _, _, ⟨c, T, fz, h5, _⟩, _⟩ := h; exact key h5
  | box lv g c => obtain ⟨q', hq, _, _, ⟨a, T, fz, h5, _⟩, _⟩ := h; cases hq; exact key h5

theorem Ob.alive_of_live {o : Ob} (h : o.live = true) : o.alive = true := by cases o <;> simp_all [Ob.live, Ob.alive]

/-- One object is new or turned; all else stays. -/
theorem Inv.put {B : Base} {β β' : Bt} {σ σ' : St} {w w' : World} {id : Nat} {o' : Ob} (h : WR B β σ w)
    (hs : ∀ j, j ≠ id → σ'[j]? = σ[j]?) (hid : σ'[id]? = some o') (hβ : ∀ j, j ≠ id → β' j = β j)
    (he : Ext β σ β' σ') (hk : ∀ b o u, Zc B β σ w b → cellAt w b o = some u → cellAt w' b o = some u) (hz : ∀ b, Zc B β σ w b → Zc B β' σ' w' b)
    (hold : ∀ j o q, j ≠ id → σ[j]? = some o → o.alive = true → β j = some q → w'.heap[q.blk]? = w.heap[q.blk]?)
    (hap : ∀ j o q q', j ≠ id → σ[j]? = some o → o.alive = true → o'.alive = true → (o.live = true ∨ o'.live = true) → β j = some q → β' id = some q' → q'.blk ≠ q.blk)
    (hnew : Holds β' σ' w' (Zc B β' σ' w') (β' id) o') : Inv β' σ' w' (Zc B β' σ' w') := by
  constructor
  · intro j o hj
    by_cases e : j = id
    · subst e; rw [hid] at hj; cases hj; exact hnew
    · rw [hs j e] at hj; rw [hβ j e]
      exact (h.inv.holds j o hj).mono he hk hz (fun q hq ha => hold j o q e hj ha hq)
  · intro i o j o2 p p' hi hj hl ha hne hp hp'
    by_cases e : i = id
    · subst e; rw [hid] at hi; cases hi
      have e2 : j ≠ i := fun h => hne h.symm
      rw [hs j e2] at hj; rw [hβ j e2] at hp'
      exact hap j o2 p' p e2 hj ha (Ob.alive_of_live hl) (.inr hl) hp' hp
    · rw [hs i e] at hi; rw [hβ i e] at hp
      by_cases e2 : j = id
      · subst e2; rw [hid] at hj; cases hj
        exact fun hh => hap i o p p' e hi (Ob.alive_of_live hl) ha (.inl hl) hp hp' hh.symm
      · rw [hs j e2] at hj; rw [hβ j e2] at hp'
        exact h.inv.apart i o j o2 p p' hi hj hl ha hne hp hp'
end Go.VL
namespace Go.VL
open Go

section
variable {B : Base} {β β' : Bt} {σ σ' : St} {w w' : World}

theorem zc_of (hsz : w.heap.size ≤ w'.heap.size) (hown : ∀ b, Own β' σ' b → Own β σ b ∨ w.heap.size ≤ b) : ∀ b, Zc B β σ w b → Zc B β' σ' w' b := by
  rintro b ⟨h1, h2, h3⟩
  refine ⟨h1, fun ho => ?_, by omega⟩
  rcases hown b ho with h | h
  · exact h2 h
  · omega
theorem cells_of (hkeep : ∀ b, b < w.heap.size → ¬ Own β σ b → w'.heap[b]? = w.heap[b]?) :
    ∀ b o u, Zc B β σ w b → cellAt w b o = some u → cellAt w' b o = some u := by
  rintro b o u ⟨h1, h2, h3⟩ hc
  rw [cellAt_congr (hkeep b h3 h2)]; exact hc

/-- A draw. -/
theorem Mv.drew (h : WR B β σ w) : Mv B β σ w β σ w.drew := by
  have hk : ∀ b o u, Zc B β σ w b → cellAt w b o = some u → cellAt w.drew b o = some u := fun _ _ _ _ h => h
  have hz : ∀ b, Zc B β σ w b → Zc B β σ w.drew b := fun _ h => h
  refine Mv.mk' h (Nat.le_refl _) (fun _ _ _ => rfl) (fun _ h => .inl h) (Ext.refl _ _) ⟨rfl, rfl, rfl⟩ (Plc.refl _ _ _) ?_
  exact ⟨fun id o ho => (h.inv.holds id o ho).mono (Ext.refl _ _) hk hz (fun _ _ _ => rfl), h.inv.apart⟩

/-- Where the next object will be told. -/
def nextBt (β : Bt) (n : Nat) (p : Option Pl) : Bt := fun i => if i = n then p else β i

theorem Ext.push (β : Bt) (σ : St) (o : Ob) (p : Option Pl) : Ext β σ (nextBt β σ.length p) (σ ++ [o]) := by
  intro id o' h
  have hl : id < σ.length := by
    rcases Nat.lt_or_ge id σ.length with h1 | h1
    · exact h1
    · simp [List.getElem?_eq_none h1] at h
  refine ⟨o', by rw [List.getElem?_append_left hl]; exact h, Nat.le_refl _, fun _ ha => ⟨ha, ?_⟩⟩
  simp [nextBt]; omega

theorem Own.push {o : Ob} {p : Option Pl} {b : Nat} (h : Own (nextBt β σ.length p) (σ ++ [o]) b) : Own β σ b ∨ ∃ q, p = some q ∧ q.blk = b := by
  obtain ⟨id, o', q, h1, h2, h3, h4⟩ := h
  by_cases e : id = σ.length
  · subst e; simp only [nextBt, if_pos] at h3; exact .inr ⟨q, h3, h4⟩
  · have hl : id < σ.length := by
      rcases Nat.lt_or_ge id σ.length with h | h
      · exact h
      · rw [List.getElem?_eq_none (by simp; omega)] at h1; simp at h1
    rw [List.getElem?_append_left hl] at h1
    simp only [nextBt, if_neg e] at h3
    exact .inl ⟨id, o', q, h1, h2, h3, h4⟩

theorem Plc.push {o : Ob} {p : Option Pl} {n : Nat} (hp : ∀ q, p = some q → n ≤ q.blk) : Plc β σ n (nextBt β σ.length p) (σ ++ [o]) := by
  intro id o' q' h1 h2 h3
  by_cases e : id = σ.length
  · subst e; simp only [nextBt, if_pos] at h3; exact .inl (hp q' h3)
  · have hl : id < σ.length := by
      rcases Nat.lt_or_ge id σ.length with h | h
      · exact h
      · rw [List.getElem?_eq_none (by simp; omega)] at h1; simp at h1
    rw [List.getElem?_append_left hl] at h1
    simp only [nextBt, if_neg e] at h3
    exact .inr ⟨o', q', h1, h2, h3, rfl⟩

theorem heap_alloc_lt (w : World) (o : Obj) {b : Nat} (h : b < w.heap.size) : (w.alloc o).heap[b]? = w.heap[b]? := by
  simp only [World.alloc]; rw [Array.getElem?_push_lt h, Array.getElem?_eq_getElem h]
theorem heap_alloc_eq (w : World) (o : Obj) : (w.alloc o).heap[w.heap.size]? = some o := by
  show (w.heap.push o)[w.heap.size]? = some o
  simp
theorem cellAt_alloc (w : World) (c : List Value) (T : TypeId) (j : Nat) : cellAt (w.alloc (.cells c.toArray T)) w.heap.size j = c[j]? := by
  have h := heap_alloc_eq w (.cells c.toArray T)
  simp only [cellAt, World.cell?, h]
  simp

/-- A new object: a block of its own behind all others. -/
theorem Mv.alloc {o : Ob} {q : Pl} {x : Obj} (h : WR B β σ w) (hq : q.blk = w.heap.size)
    (hnew : (∀ {y v}, VRel β σ w (Zc B β σ w) y v → VRel (nextBt β σ.length (some q)) (σ ++ [o]) (w.alloc x) (Zc B (nextBt β σ.length (some q)) (σ ++ [o]) (w.alloc x)) y v) →
      (∀ {y v}, DRel w (Zc B β σ w) y v → DRel (w.alloc x) (Zc B (nextBt β σ.length (some q)) (σ ++ [o]) (w.alloc x)) y v) →
      Holds (nextBt β σ.length (some q)) (σ ++ [o]) (w.alloc x) (Zc B (nextBt β σ.length (some q)) (σ ++ [o]) (w.alloc x)) (some q) o) :
    Mv B β σ w (nextBt β σ.length (some q)) (σ ++ [o]) (w.alloc x) := by
  have hsz : w.heap.size ≤ (w.alloc x).heap.size := by simp
  have hkeep : ∀ b, b < w.heap.size → ¬ Own β σ b → (w.alloc x).heap[b]? = w.heap[b]? := fun b hb _ => heap_alloc_lt w x hb
  have hown : ∀ b, Own (nextBt β σ.length (some q)) (σ ++ [o]) b → Own β σ b ∨ w.heap.size ≤ b := by
    intro b ho
    rcases Own.push ho with ho | ⟨q', hq', hb⟩
    · exact .inl ho
    · cases hq'; exact .inr (by omega)
  have he := Ext.push β σ o (some q)
  have hk := cells_of (B := B) hkeep
  have hz := zc_of (B := B) hsz hown
  refine Mv.mk' h hsz hkeep hown he ⟨rfl, rfl, rfl⟩ (Plc.push (fun q' h => by cases h; omega)) ?_
  refine Inv.put (id := σ.length) (o' := o) h ?_ (by simp) ?_ he hk hz ?_ ?_ ?_
  · intro j hj
    rcases Nat.lt_or_ge j σ.length with h1 | h1
    · rw [List.getElem?_append_left h1]
    · rw [List.getElem?_eq_none h1, List.getElem?_eq_none (by simp; omega)]
  · intro j hj; simp [nextBt, hj]
  · intro j o2 p hj ho2 ha hp
    have := (hp ▸ h.inv.holds j o2 ho2).lt ha
    exact heap_alloc_lt w x this
  · intro j o2 p p' hj ho2 ha _ _ hp hp'
    have := (hp ▸ h.inv.holds j o2 ho2).lt ha
    simp only [nextBt, if_pos] at hp'; cases hp'; omega
  · simp only [nextBt, if_pos]
    exact hnew (fun hv => hv.mono he hk hz) (fun hv => hv.mono hk hz)

/-- A new box. -/
theorem Mv.newBox (h : WR B β σ w) (cs : List PV) (vs : List Value) (T : TypeId) (hn : cs.length = vs.length)
    (hr : ∀ (j : Nat) (x : PV) (v : Value), cs[j]? = some x → vs[j]? = some v → VRel β σ w (Zc B β σ w) x v) :
    ∃ β', Mv B β σ w β' (σ ++ [.box true 0 cs]) (w.alloc (.cells vs.toArray T)) ∧ β' σ.length = some ⟨w.heap.size, 0, cs.length, cs.length⟩ := by
  refine ⟨nextBt β σ.length (some ⟨w.heap.size, 0, cs.length, cs.length⟩), Mv.alloc h rfl ?_, by simp [nextBt]⟩
  intro hv hd
  refine ⟨_, rfl, rfl, by simp, ⟨vs.toArray, T, (0, 0), heap_alloc_eq w _, by simp [hn], fun _ => rfl⟩, ?_⟩
  intro j x hj
  have hl : j < vs.length := by
    rw [← hn]; rcases Nat.lt_or_ge j cs.length with h1 | h1
    · exact h1
    · simp [List.getElem?_eq_none h1] at hj
  refine ⟨vs[j], ?_, hv (hr j x vs[j] hj (List.getElem?_eq_getElem hl))⟩
  simp only [Nat.zero_add, cellAt_alloc]; exact List.getElem?_eq_getElem hl

/-- A new row of elements; 'tail' are cells behind them (the spare ones). -/
theorem Mv.newArr (h : WR B β σ w) (sz : Nat) (es : List (List D)) (vs : List Value) (T : TypeId) (hsz : ∀ e ∈ es, e.length = sz) (hn : es.length * sz ≤ vs.length)
    (hr : ∀ (i j : Nat) (e : List D) (x : D) (v : Value), es[i]? = some e → e[j]? = some x → vs[i * sz + j]? = some v → v.oneCell' = true ∧ DRel w (Zc B β σ w) x v) :
    ∃ β', Mv B β σ w β' (σ ++ [.arr true 0 sz es]) (w.alloc (.cells vs.toArray T)) ∧ β' σ.length = some ⟨w.heap.size, 0, sz, vs.length⟩ := by
  refine ⟨nextBt β σ.length (some ⟨w.heap.size, 0, sz, vs.length⟩), Mv.alloc h rfl ?_, by simp [nextBt]⟩
  intro hv hd
  refine ⟨hsz, rfl, by simpa using hn, ⟨vs.toArray, T, (0, 0), heap_alloc_eq w _, by simp, fun _ => rfl⟩, ?_⟩
  intro i j e x hi hj
  have hi' : i < es.length := by
    rcases Nat.lt_or_ge i es.length with h1 | h1
    · exact h1
    · simp [List.getElem?_eq_none h1] at hi
  have he : e.length = sz := hsz e (List.mem_of_getElem? hi)
  have hj' : j < sz := by
    rw [← he]; rcases Nat.lt_or_ge j e.length with h1 | h1
    · exact h1
    · simp [List.getElem?_eq_none h1] at hj
  have hl : i * sz + j < vs.length := by
    have : (i + 1) * sz ≤ es.length * sz := Nat.mul_le_mul_right _ hi'
    rw [Nat.add_mul] at this; omega
  obtain ⟨h1, h2⟩ := hr i j e x _ hi hj (List.getElem?_eq_getElem hl)
  refine ⟨vs[i * sz + j], ?_, h1, hd h2⟩
  simp only [Nat.zero_add, cellAt_alloc]; exact List.getElem?_eq_getElem hl

/-- A row that has no block: nil told as an object. -/
theorem Mv.newNil (h : WR B β σ w) (sz : Nat) : Mv B β σ w (nextBt β σ.length none) (σ ++ [.arr true 0 sz []]) w := by
  have hown : ∀ b, Own (nextBt β σ.length none) (σ ++ [.arr true 0 sz []]) b → Own β σ b ∨ w.heap.size ≤ b := by
    intro b ho
    rcases Own.push ho with ho | ⟨q', hq', hb⟩
    · exact .inl ho
    · cases hq'
  have he := Ext.push β σ (.arr true 0 sz []) none
  have hk := cells_of (B := B) (w := w) (w' := w) (β := β) (σ := σ) (fun _ _ _ => rfl)
  have hz := zc_of (B := B) (Nat.le_refl _) hown
  refine Mv.mk' h (Nat.le_refl _) (fun _ _ _ => rfl) hown he ⟨rfl, rfl, rfl⟩ (Plc.push (fun q' h => by cases h)) ?_
  refine Inv.put (id := σ.length) (o' := .arr true 0 sz []) h ?_ (by simp) ?_ he hk hz (fun _ _ _ _ _ _ _ => rfl) ?_ ?_
  · intro j hj
    rcases Nat.lt_or_ge j σ.length with h1 | h1
    · rw [List.getElem?_append_left h1]
    · rw [List.getElem?_eq_none h1, List.getElem?_eq_none (by simp; omega)]
  · intro j hj; simp [nextBt, hj]
  · intro j o2 p p' hj ho2 ha _ _ hp hp'
    simp [nextBt] at hp'
  · simp only [nextBt, if_pos]
    exact ⟨by simp, rfl⟩
end
end Go.VL
namespace Go.VL
open Go

def spl {α : Type} (c : List α) (o : Nat) (xs : List α) : List α := c.take o ++ xs ++ c.drop (o + xs.length)

theorem spl_length {α : Type} {c : List α} {o : Nat} {xs : List α} (h : o + xs.length ≤ c.length) : (spl c o xs).length = c.length := by
  simp [spl]; omega
theorem spl_get {α : Type} {c : List α} {o : Nat} {xs : List α} (h : o + xs.length ≤ c.length) (j : Nat) :
    (spl c o xs)[j]? = if o ≤ j ∧ j < o + xs.length then xs[j - o]? else c[j]? := by
  simp only [spl, List.getElem?_append, List.length_append, List.length_take, List.getElem?_take, List.getElem?_drop]
  have hm : min o c.length = o := by omega
  rw [hm]
  by_cases h1 : j < o
  · rw [if_pos (by omega), if_pos h1, if_pos h1, if_neg (by omega)]
  · by_cases h2 : j < o + xs.length
    · rw [if_pos h2, if_neg h1, if_pos (by omega)]
    · rw [if_neg h2, if_neg (by omega)]; congr 1; omega

section
variable {B : Base} {β β' : Bt} {σ σ' : St} {w w' : World}

theorem setRow_get {g : Nat} {cur : Array Value} {t : TypeId} {fr : Nat × Nat} (hg : w.heap[g]? = some (.cells cur t fr)) (c : Array Value) (b : Nat) :
    (w.setRow g c).heap[b]? = if b = g then some (.cells c t fr) else w.heap[b]? := by
  by_cases e : b = g
  · subst e; rw [if_pos rfl]; exact setRow_heap w b cur c t fr hg
  · rw [if_neg e]; simp only [World.setRow]
    rw [Array.getElem?_modify, if_neg (fun h => e h.symm)]
theorem setRow_size (g : Nat) (c : Array Value) : (w.setRow g c).heap.size = w.heap.size := by simp [World.setRow]

theorem Ext.set {id : Nat} {o o' : Ob} (h : σ[id]? = some o) (hg : o.gen ≤ o'.gen) (ha : o'.alive = true → o.alive = true) : Ext β σ β (σ.set id o') := by
  intro j x hx
  by_cases e : j = id
  · subst e; rw [h] at hx; cases hx
    have hl : j < σ.length := by
      rcases Nat.lt_or_ge j σ.length with h1 | h1
      · exact h1
      · simp [List.getElem?_eq_none h1] at h
    exact ⟨o', by simp [hl], by omega, fun _ h => ⟨ha h, rfl⟩⟩
  · exact ⟨x, by rw [List.getElem?_set_ne (fun h => e h.symm)]; exact hx, Nat.le_refl _, fun _ h => ⟨h, rfl⟩⟩
theorem set_self {id : Nat} {o o' : Ob} (h : σ[id]? = some o) : (σ.set id o')[id]? = some o' := by
  have hl : id < σ.length := by
    rcases Nat.lt_or_ge id σ.length with h1 | h1
    · exact h1
    · simp [List.getElem?_eq_none h1] at h
  simp [hl]
theorem Own.set {id : Nat} {o o' : Ob} {b : Nat} (h : σ[id]? = some o) (hl : o'.live = true → o.live = true) (hb : Own β (σ.set id o') b) : Own β σ b := by
  obtain ⟨j, x, p, h1, h2, h3, h4⟩ := hb
  by_cases e : j = id
  · subst e; rw [set_self h] at h1; cases h1; exact ⟨j, o, p, h, hl h2, h3, h4⟩
  · rw [List.getElem?_set_ne (fun h => e h.symm)] at h1; exact ⟨j, x, p, h1, h2, h3, h4⟩

theorem Plc.set {id : Nat} {o o' : Ob} {n : Nat} (h : σ[id]? = some o) (ha : o'.alive = true → o.alive = true) : Plc β σ n β (σ.set id o') := by
  intro j x q h1 h2 h3
  by_cases e : j = id
  · subst e; rw [set_self h] at h1; cases h1; exact .inr ⟨o, q, h, ha h2, h3, rfl⟩
  · rw [List.getElem?_set_ne (fun h => e h.symm)] at h1; exact .inr ⟨x, q, h1, h2, h3, rfl⟩

/-- A write into a live object's own block; its other cells stay. -/
theorem Mv.write {id : Nat} {o o' : Ob} {q : Pl} {cur cells : Array Value} {t : TypeId} (h : WR B β σ w) (ho : σ[id]? = some o) (hl : o.live = true) (hgen : o.gen ≤ o'.gen)
    (hq : β id = some q) (hcur : w.heap[q.blk]? = some (.cells cur t (0, 0)))
    (hnew : (∀ {y v}, VRel β σ w (Zc B β σ w) y v → VRel β (σ.set id o') (w.setRow q.blk cells) (Zc B β (σ.set id o') (w.setRow q.blk cells)) y v) →
      (∀ {y v}, DRel w (Zc B β σ w) y v → DRel (w.setRow q.blk cells) (Zc B β (σ.set id o') (w.setRow q.blk cells)) y v) →
      Holds β (σ.set id o') (w.setRow q.blk cells) (Zc B β (σ.set id o') (w.setRow q.blk cells)) (some q) o') :
    Mv B β σ w β (σ.set id o') (w.setRow q.blk cells) := by
  have hown0 : Own β σ q.blk := ⟨id, o, q, ho, hl, hq, rfl⟩
  have hsz : w.heap.size ≤ (w.setRow q.blk cells).heap.size := by rw [setRow_size]; exact Nat.le_refl _
  have hkeep : ∀ b, b < w.heap.size → ¬ Own β σ b → (w.setRow q.blk cells).heap[b]? = w.heap[b]? := by
    intro b _ hn
    rw [setRow_get hcur, if_neg (fun e : b = q.blk => hn (by rw [e]; exact hown0))]
  have hown : ∀ b, Own β (σ.set id o') b → Own β σ b ∨ w.heap.size ≤ b := fun b hb => .inl (Own.set ho (fun _ => hl) hb)
  have he : Ext β σ β (σ.set id o') := Ext.set ho hgen (fun _ => Ob.alive_of_live hl)
  have hk := cells_of (B := B) hkeep
  have hz := zc_of (B := B) hsz hown
  refine Mv.mk' h hsz hkeep hown he ⟨rfl, rfl, rfl⟩ (Plc.set ho (fun _ => Ob.alive_of_live hl)) ?_
  refine Inv.put (id := id) (o' := o') h ?_ (set_self ho) (fun _ _ => rfl) he hk hz ?_ ?_ ?_
  · intro j hj; rw [List.getElem?_set_ne (fun h => hj h.symm)]
  · intro j o2 p hj ho2 ha hp
    have := h.inv.apart id o j o2 q p ho ho2 hl ha (fun h => hj h.symm) hq hp
    rw [setRow_get hcur, if_neg (fun e => this e.symm)]
  · intro j o2 p p' hj ho2 ha _ _ hp hp'
    rw [hq] at hp'; cases hp'
    exact h.inv.apart id o j o2 q p ho ho2 hl ha (fun h => hj h.symm) hq hp
  · rw [hq]; exact hnew (fun hv => hv.mono he hk hz) (fun hv => hv.mono hk hz)

theorem cellAt_setRow {g : Nat} {cur : Array Value} {t : TypeId} {fr : Nat × Nat} (hg : w.heap[g]? = some (.cells cur t fr)) (c : Array Value) (j : Nat) :
    cellAt (w.setRow g c) g j = c[j]? := by
  have h := setRow_get hg c g
  rw [if_pos rfl] at h
  simp only [cellAt, World.cell?, h]; simp
theorem cellAt_cells {g : Nat} {cur : Array Value} {t : TypeId} {fr : Nat × Nat} (hg : w.heap[g]? = some (.cells cur t fr)) (j : Nat) : cellAt w g j = cur[j]? := by
  simp only [cellAt, World.cell?, hg]; simp

/-- Cells stored into a box. -/
theorem Mv.setBox {id g : Nat} {c : List PV} {off : Nat} {xs : List PV} {vs : List Value} (h : WR B β σ w) (ho : σ[id]? = some (.box true g c)) (hoff : off + xs.length ≤ c.length)
    (hn : xs.length = vs.length) (hr : ∀ (j : Nat) (x : PV) (v : Value), xs[j]? = some x → vs[j]? = some v → VRel β σ w (Zc B β σ w) x v) :
    ∃ q cur t, β id = some q ∧ w.heap[q.blk]? = some (.cells cur t (0, 0)) ∧ q.base + off + vs.length ≤ cur.size ∧
      Mv B β σ w β (σ.set id (.box true g (spl c off xs))) (w.setRow q.blk (cur.toList.take (q.base + off) ++ vs ++ cur.toList.drop (q.base + off + vs.length)).toArray) := by
  obtain ⟨q, hq, hsz, htot, ⟨cur, t, fz, hcur, hct, hfz⟩, hcells⟩ := h.inv.holds id _ ho
  have := hfz rfl; subst this
  have hfit : q.base + off + vs.length ≤ cur.size := by omega
  refine ⟨q, cur, t, hq, hcur, hfit, Mv.write h ho rfl (Nat.le_refl _) hq hcur ?_⟩
  intro hv hd
  refine ⟨q, rfl, by rw [spl_length hoff]; exact hsz, by rw [spl_length hoff]; exact htot, ⟨(cur.toList.take (q.base + off) ++ vs ++ cur.toList.drop (q.base + off + vs.length)).toArray, t, (0, 0), ?_, ?_, fun _ => rfl⟩, ?_⟩
  · rw [setRow_get hcur, if_pos rfl]
  · simp; omega
  · intro j x hj
    rw [spl_get hoff] at hj
    have hs : (cur.toList.take (q.base + off) ++ vs ++ cur.toList.drop (q.base + off + vs.length)) = spl cur.toList (q.base + off) vs := rfl
    rw [cellAt_setRow hcur, hs, List.getElem?_toArray, spl_get (by simpa using hfit)]
    by_cases hc : off ≤ j ∧ j < off + xs.length
    · rw [if_pos hc] at hj
      have hl : j - off < vs.length := by omega
      refine ⟨vs[j - off], ?_, hv (hr (j - off) x _ hj (List.getElem?_eq_getElem hl))⟩
      rw [if_pos (by omega), show q.base + j - (q.base + off) = j - off from by omega]; exact List.getElem?_eq_getElem hl
    · rw [if_neg hc] at hj
      obtain ⟨v, hv1, hv2⟩ := hcells j x hj
      rw [cellAt_cells hcur] at hv1
      refine ⟨v, ?_, hv hv2⟩
      rw [if_neg (by omega)]; simpa using hv1

/-- Cells stored into an element of a row. -/
theorem Mv.setArr {id g sz : Nat} {es : List (List D)} {i off : Nat} {e : List D} {xs : List D} {vs : List Value} (h : WR B β σ w) (ho : σ[id]? = some (.arr true g sz es)) (hi : es[i]? = some e) (hoff : off + xs.length ≤ e.length)
    (hn : xs.length = vs.length) (hone : ∀ v ∈ vs, v.oneCell' = true) (hr : ∀ (j : Nat) (x : D) (v : Value), xs[j]? = some x → vs[j]? = some v → DRel w (Zc B β σ w) x v) :
    ∃ q cur t, β id = some q ∧ q.sz = sz ∧ w.heap[q.blk]? = some (.cells cur t (0, 0)) ∧ q.base + i * sz + off + vs.length ≤ cur.size ∧
      Mv B β σ w β (σ.set id (.arr true g sz (es.set i (spl e off xs)))) (w.setRow q.blk (cur.toList.take (q.base + i * sz + off) ++ vs ++ cur.toList.drop (q.base + i * sz + off + vs.length)).toArray) := by
  obtain ⟨hlen, hp⟩ := h.inv.holds id _ ho
  have hil : i < es.length := by
    rcases Nat.lt_or_ge i es.length with h1 | h1
    · exact h1
    · simp [List.getElem?_eq_none h1] at hi
  have hel : e.length = sz := hlen e (List.mem_of_getElem? hi)
  cases hq : β id with
  | none => rw [hq] at hp; subst hp; simp at hil
  | some q =>
    rw [hq] at hp
    obtain ⟨hqs, htot, ⟨cur, t, fz, hcur, hct, hfz⟩, hcells⟩ := hp
    have := hfz rfl; subst this
    have hmul : (i + 1) * sz ≤ es.length * sz := Nat.mul_le_mul_right _ hil
    rw [Nat.add_mul] at hmul
    have hfit : q.base + i * sz + off + vs.length ≤ cur.size := by omega
    refine ⟨q, cur, t, rfl, hqs, hcur, hfit, Mv.write h ho rfl (Nat.le_refl _) hq hcur ?_⟩
    intro hv hd
    refine ⟨?_, hqs, by simpa using htot, ⟨(cur.toList.take (q.base + i * sz + off) ++ vs ++ cur.toList.drop (q.base + i * sz + off + vs.length)).toArray, t, (0, 0), ?_, ?_, fun _ => rfl⟩, ?_⟩
    · intro e' he'
      rcases List.mem_or_eq_of_mem_set he' with h1 | h1
      · exact hlen e' h1
      · rw [h1, spl_length hoff]; exact hel
    · rw [setRow_get hcur, if_pos rfl]
    · simp; omega
    · intro k j e' x hk hj
      have hs : (cur.toList.take (q.base + i * sz + off) ++ vs ++ cur.toList.drop (q.base + i * sz + off + vs.length)) = spl cur.toList (q.base + i * sz + off) vs := rfl
      rw [cellAt_setRow hcur, hs, List.getElem?_toArray, spl_get (by simpa using hfit)]
      have hkl : k < es.length := by
        rcases Nat.lt_or_ge k es.length with h1 | h1
        · exact h1
        · simp [List.getElem?_set, List.getElem?_eq_none h1] at hk; omega
      by_cases hki : k = i
      · subst hki
        have : e' = spl e off xs := by simpa [List.getElem?_set, hkl] using hk.symm
        subst this
        rw [spl_get hoff] at hj
        by_cases hc : off ≤ j ∧ j < off + xs.length
        · rw [if_pos hc] at hj
          have hl : j - off < vs.length := by omega
          refine ⟨vs[j - off], ?_, hone _ (List.getElem_mem hl), hd (hr (j - off) x _ hj (List.getElem?_eq_getElem hl))⟩
          rw [if_pos (by omega), show q.base + k * sz + j - (q.base + k * sz + off) = j - off from by omega]; exact List.getElem?_eq_getElem hl
        · rw [if_neg hc] at hj
          obtain ⟨v, hv1, ho1, hv2⟩ := hcells k j e x hi hj
          rw [cellAt_cells hcur] at hv1
          refine ⟨v, ?_, ho1, hd hv2⟩
          rw [if_neg (by omega)]; simpa using hv1
      · rw [List.getElem?_set_ne (fun h => hki h.symm)] at hk
        obtain ⟨v, hv1, ho1, hv2⟩ := hcells k j e' x hk hj
        rw [cellAt_cells hcur] at hv1
        have hjl : j < sz := by
          have h1 := hlen e' (List.mem_of_getElem? hk)
          rcases Nat.lt_or_ge j e'.length with h2 | h2
          · omega
          · simp [List.getElem?_eq_none h2] at hj
        refine ⟨v, ?_, ho1, hd hv2⟩
        have hne : ¬ (q.base + i * sz + off ≤ q.base + k * sz + j ∧ q.base + k * sz + j < q.base + i * sz + off + vs.length) := by
          rcases Nat.lt_or_gt_of_ne hki with h1 | h1
          · have : (k + 1) * sz ≤ i * sz := Nat.mul_le_mul_right _ h1
            rw [Nat.add_mul] at this; omega
          · have : (i + 1) * sz ≤ k * sz := Nat.mul_le_mul_right _ h1
            rw [Nat.add_mul] at this; omega
        rw [if_neg hne]; simpa using hv1

/-- An object is no longer written: what it holds is data from now on. -/
theorem Mv.mark {id : Nat} {o o' : Ob} (h : WR B β σ w) (ho : σ[id]? = some o) (hgen : o.gen ≤ o'.gen) (ha : o'.alive = true → o.alive = true) (hl : o'.live = true → o.live = true)
    (hnew : (∀ {y v}, VRel β σ w (Zc B β σ w) y v → VRel β (σ.set id o') w (Zc B β (σ.set id o') w) y v) →
      (∀ {y v}, DRel w (Zc B β σ w) y v → DRel w (Zc B β (σ.set id o') w) y v) → Holds β (σ.set id o') w (Zc B β (σ.set id o') w) (β id) o') :
    Mv B β σ w β (σ.set id o') w := by
  have hown : ∀ b, Own β (σ.set id o') b → Own β σ b ∨ w.heap.size ≤ b := fun b hb => .inl (Own.set ho hl hb)
  have he : Ext β σ β (σ.set id o') := Ext.set ho hgen ha
  have hk := cells_of (B := B) (w := w) (w' := w) (β := β) (σ := σ) (fun _ _ _ => rfl)
  have hz := zc_of (B := B) (Nat.le_refl _) hown
  refine Mv.mk' h (Nat.le_refl _) (fun _ _ _ => rfl) hown he ⟨rfl, rfl, rfl⟩ (Plc.set ho ha) ?_
  refine Inv.put (id := id) (o' := o') h ?_ (set_self ho) (fun _ _ => rfl) he hk hz (fun _ _ _ _ _ _ _ => rfl) ?_ (hnew (fun hv => hv.mono he hk hz) (fun hv => hv.mono hk hz))
  · intro j hj; rw [List.getElem?_set_ne (fun h => hj h.symm)]
  · intro j o2 p p' hj ho2 ha2 ha' hll hp hp'
    rcases hll with h1 | h1
    · exact fun e => h.inv.apart j o2 id o p p' ho2 ho h1 (ha ha') hj hp hp' e.symm
    · exact h.inv.apart id o j o2 p' p ho ho2 (hl h1) ha2 (fun h => hj h.symm) hp' hp
end
end Go.VL
namespace Go.VL
open Go

section
variable {B : Base} {β β' : Bt} {σ σ' : St} {w w' : World} {P : Program}

def movedBt (β : Bt) (id : Nat) (p : Option Pl) : Bt := fun i => if i = id then p else β i

/-- A live object goes on in a new block. -/
theorem Mv.realloc {id : Nat} {o o' : Ob} {q : Pl} {x : Obj} (h : WR B β σ w) (ho : σ[id]? = some o) (hgen : o.gen < o'.gen) (hq : q.blk = w.heap.size)
    (hnew : (∀ {y v}, DRel w (Zc B β σ w) y v → DRel (w.alloc x) (Zc B (movedBt β id (some q)) (σ.set id o') (w.alloc x)) y v) →
      Holds (movedBt β id (some q)) (σ.set id o') (w.alloc x) (Zc B (movedBt β id (some q)) (σ.set id o') (w.alloc x)) (some q) o') :
    Mv B β σ w (movedBt β id (some q)) (σ.set id o') (w.alloc x) := by
  have hsz : w.heap.size ≤ (w.alloc x).heap.size := by simp
  have hkeep : ∀ b, b < w.heap.size → ¬ Own β σ b → (w.alloc x).heap[b]? = w.heap[b]? := fun b hb _ => heap_alloc_lt w x hb
  have hown : ∀ b, Own (movedBt β id (some q)) (σ.set id o') b → Own β σ b ∨ w.heap.size ≤ b := by
    rintro b ⟨j, y, p, h1, h2, h3, h4⟩
    by_cases e : j = id
    · subst e; simp only [movedBt, if_pos] at h3; cases h3; exact .inr (by omega)
    · rw [List.getElem?_set_ne (fun h => e h.symm)] at h1; simp only [movedBt, if_neg e] at h3
      exact .inl ⟨j, y, p, h1, h2, h3, h4⟩
  have he : Ext β σ (movedBt β id (some q)) (σ.set id o') := by
    intro j y hy
    by_cases e : j = id
    · subst e; rw [ho] at hy; cases hy
      exact ⟨o', set_self ho, by omega, fun h => by omega⟩
    · exact ⟨y, by rw [List.getElem?_set_ne (fun h => e h.symm)]; exact hy, Nat.le_refl _, fun _ h => ⟨h, by simp [movedBt, e]⟩⟩
  have hk := cells_of (B := B) hkeep
  have hz := zc_of (B := B) hsz hown
  have hpl : Plc β σ w.heap.size (movedBt β id (some q)) (σ.set id o') := by
    intro j y p h1 h2 h3
    by_cases e : j = id
    · subst e; simp only [movedBt, if_pos] at h3; cases h3; exact .inl (by omega)
    · rw [List.getElem?_set_ne (fun h => e h.symm)] at h1; simp only [movedBt, if_neg e] at h3
      exact .inr ⟨y, p, h1, h2, h3, rfl⟩
  refine Mv.mk' h hsz hkeep hown he ⟨rfl, rfl, rfl⟩ hpl ?_
  refine Inv.put (id := id) (o' := o') h ?_ (set_self ho) ?_ he hk hz ?_ ?_ ?_
  · intro j hj; rw [List.getElem?_set_ne (fun h => hj h.symm)]
  · intro j hj; simp [movedBt, hj]
  · intro j o2 p hj ho2 ha hp
    have := (hp ▸ h.inv.holds j o2 ho2).lt ha
    exact heap_alloc_lt w x this
  · intro j o2 p p' hj ho2 ha _ _ hp hp'
    have := (hp ▸ h.inv.holds j o2 ho2).lt ha
    simp only [movedBt, if_pos] at hp'; cases hp'; omega
  · simp only [movedBt, if_pos]
    exact hnew (fun hv => hv.mono hk hz)

/-- What append is told of its second operand. -/
structure Appended (P : Program) (w : World) (size : Nat) (x : Value) (m : Nat) (news : List Value) : Prop where
  len : (Builtin.lenOf x).run P w = .ok m w
  first : (Builtin.firstCells size m x).run P w = .ok news.toArray w
  first' : (Builtin.firstCells size m x).run P w.drew = .ok news.toArray w.drew
  size : news.length = m * size
  one : ∀ v ∈ news, v.oneCell' = true

theorem run_append_room' (t u ty e : TypeId) (i : TypeInfo) (ht : P.underlying t = some (.slice e)) (hu : (∃ e', P.underlying u = some (.slice e')) ∨ P.underlying u = some .string) (hi : P.info? e = some i)
    (g off sLen sCap : Nat) (cur : Array Value) (T : TypeId) (hg : w.heap[g]? = some (.cells cur T (0, 0))) (x : Value) (m : Nat) (news : List Value) (hx : Appended P w i.size x m news)
    (hroom : sLen + m ≤ sCap) (hfit : off + sLen * i.size + news.length ≤ cur.size) :
    (Builtin.append_ #[t, u] ty #[.slice (some ⟨g, off, none⟩) sLen sCap, x]).run P w =
      .ok (.slice (some ⟨g, off, none⟩) (sLen + m) sCap) (w.setRow g (cur.toList.take (off + sLen * i.size) ++ news ++ cur.toList.drop (off + sLen * i.size + news.length)).toArray) := by
  have hst := run_storeCells_at P g (off + sLen * i.size) T news 0 cur w hg (by simpa using hfit) hx.one
  simp only [Nat.add_zero] at hst
  have hadd : (⟨g, off, none⟩ : Addr).add (sLen * i.size) = ⟨g, off + sLen * i.size, none⟩ := by unfold Addr.add; split <;> simp_all
  rcases hu with ⟨e', hu⟩ | hu <;> simp [Builtin.append_, run_underlying ht, run_underlying hu, sizeOf, typeInfo, hi, hx.len, hroom, hx.first, hadd, hst]

theorem run_append_none' (t u ty e : TypeId) (i : TypeInfo) (ht : P.underlying t = some (.slice e)) (hu : (∃ e', P.underlying u = some (.slice e')) ∨ P.underlying u = some .string) (hi : P.info? e = some i)
    (x : Value) (news : List Value) (hx : Appended P w i.size x 0 news) :
    (Builtin.append_ #[t, u] ty #[.slice none 0 0, x]).run P w = .ok (.slice none 0 0) w := by
  rcases hu with ⟨e', hu⟩ | hu <;> simp [Builtin.append_, run_underlying ht, run_underlying hu, sizeOf, typeInfo, hi, hx.len, hx.first]

theorem run_append_grow' (t u ty e : TypeId) (i : TypeInfo) (z : Value) (ht : P.underlying t = some (.slice e)) (hu : (∃ e', P.underlying u = some (.slice e')) ∨ P.underlying u = some .string) (hi : P.info? e = some i) (hz : i.zero = some z)
    (base : Option Addr) (sLen sCap : Nat) (olds : List Value) (ho : (Builtin.firstCells i.size sLen (.slice base sLen sCap)).run P w.drew = .ok olds.toArray w.drew)
    (x : Value) (m : Nat) (news : List Value) (hx : Appended P w i.size x m news)
    (hg : sCap < sLen + m) (hfit : (sLen + m) * i.bytes ≤ 140737488355328) (h63 : sLen + m ≤ 9223372036854775807) :
    (Builtin.append_ #[t, u] ty #[.slice base sLen sCap, x]).run P w =
      .ok (.slice (some ⟨w.heap.size, 0, none⟩) (sLen + m) (grownCap w (sLen + m) sCap e))
        (w.drew.alloc (.cells (olds ++ news ++ (Builtin.zeroCells z.cells (grownCap w (sLen + m) sCap e - (sLen + m))).toList).toArray e)) := by
  have hn : ¬ (sLen + m ≤ sCap) := by omega
  have h63' : ¬ (9223372036854775807 < ((sLen : Int) + (m : Int))) := by omega
  have h48 := growslice_fits hg hfit
  have h48' : ¬ (281474976710656 < Builtin.nextslicecap (sLen + m) sCap * i.bytes) := by omega
  rcases hu with ⟨e', hu⟩ | hu
  all_goals
    simp [Builtin.append_, run_underlying ht, run_underlying hu, sizeOf, typeInfo, zeroValue, hi, hz, hx.len, hn, h63', h48', Question.forced, hx.first', ho, newRow, grownCap]
    congr 2; apply Array.ext'; simp

theorem zeroCells_size (z : Array Value) (n : Nat) : (Builtin.zeroCells z n).toList.length = n * z.size := by simp [Builtin.zeroCells]

/-- The cells of a row's elements, one behind the other. -/
def Rows2 (w : World) (Z : Nat → Prop) (sz : Nat) (es : List (List D)) (vs : List Value) : Prop :=
  vs.length = es.length * sz ∧ ∀ (i j : Nat) (e : List D) (x : D) (v : Value), es[i]? = some e → e[j]? = some x → vs[i * sz + j]? = some v → v.oneCell' = true ∧ DRel w Z x v

theorem idx_lt {sz i j n : Nat} (hi : i < n) (hj : j < sz) : i * sz + j < n * sz := by
  have : (i + 1) * sz ≤ n * sz := Nat.mul_le_mul_right _ hi
  rw [Nat.add_mul] at this; omega

theorem get_lt {α : Type} {l : List α} {i : Nat} {x : α} (h : l[i]? = some x) : i < l.length := by
  rcases Nat.lt_or_ge i l.length with h1 | h1
  · exact h1
  · simp [List.getElem?_eq_none h1] at h

theorem Rows2.append {w : World} {Z : Nat → Prop} {sz : Nat} {es xs : List (List D)} {vs us : List Value} (h : Rows2 w Z sz es vs) (h' : Rows2 w Z sz xs us)
    (hes : ∀ e ∈ es, e.length = sz) : Rows2 w Z sz (es ++ xs) (vs ++ us) := by
  obtain ⟨h1, h2⟩ := h; obtain ⟨h1', h2'⟩ := h'
  refine ⟨by simp [h1, h1', Nat.add_mul], fun i j e x v hi hj hv => ?_⟩
  rcases Nat.lt_or_ge i es.length with hl | hl
  · rw [List.getElem?_append_left hl] at hi
    have hj' : j < sz := by rw [← hes e (List.mem_of_getElem? hi)]; exact get_lt hj
    rw [List.getElem?_append_left (by rw [h1]; exact idx_lt hl hj')] at hv
    exact h2 i j e x v hi hj hv
  · rw [List.getElem?_append_right hl] at hi
    have hm : es.length * sz ≤ i * sz := Nat.mul_le_mul_right _ hl
    rw [List.getElem?_append_right (by rw [h1]; omega)] at hv
    refine h2' (i - es.length) j e x v hi hj ?_
    rw [← hv, h1, Nat.sub_mul]; congr 1; omega

/-- The cells of an object's row. -/
theorem rowCells {id g sz : Nat} {lv : Bool} {es : List (List D)} {q : Pl} (h : WR B β σ w) (ho : σ[id]? = some (.arr lv g sz es)) (hq : β id = some q) :
    ∃ vs, Rows2 w (Zc B β σ w) sz es vs ∧ ∀ (j : Nat) (v : Value), vs[j]? = some v → cellAt w q.blk (q.base + j) = some v := by
  obtain ⟨hlen, hp⟩ := h.inv.holds id _ ho
  rw [hq] at hp
  obtain ⟨hqs, htot, ⟨cur, t, fz, hcur, hct, hfz⟩, hcells⟩ := hp
  refine ⟨(cur.toList.drop q.base).take (es.length * sz), ⟨by simp; omega, ?_⟩, ?_⟩
  · intro i j e x v hi hj hv
    obtain ⟨v', h1, h2'⟩ := hcells i j e x hi hj
    have hj' : j < sz := by rw [← hlen e (List.mem_of_getElem? hi)]; exact get_lt hj
    have hlt := idx_lt (get_lt hi) hj'
    rw [cellAt_cells hcur] at h1
    rw [List.getElem?_take, if_pos hlt, List.getElem?_drop] at hv
    have : v = v' := by
      have h3 : cur.toList[q.base + (i * sz + j)]? = some v' := by simpa [Nat.add_assoc] using h1
      rw [hv] at h3; exact Option.some.inj h3
    subst this; exact h2'
  · intro j v hv
    rw [List.getElem?_take] at hv
    split at hv
    · rw [List.getElem?_drop] at hv; rw [cellAt_cells hcur]; simpa using hv
    · simp at hv

/-- append onto a row of the activation's own. -/
theorem Mv.append {id g sz : Nat} {es xs : List (List D)} {v x : Value} {news : List Value} (h : WR B β σ w) (ho : σ[id]? = some (.arr true g sz es)) (hv : SlPlace (β id) 0 es.length v)
    (t u ty e : TypeId) (i : TypeInfo) (z : Value) (ht : P.underlying t = some (.slice e)) (hu : (∃ e', P.underlying u = some (.slice e')) ∨ P.underlying u = some .string) (hi : P.info? e = some i) (hz : i.zero = some z)
    (hsz : i.size = sz) (hzs : z.cells.size = sz) (hx : Appended P w sz x xs.length news) (hrows : Rows2 w (Zc B β σ w) sz xs news) (hxs : ∀ e ∈ xs, e.length = sz)
    (hfit : (es.length + xs.length) * i.bytes ≤ 140737488355328) (h63 : es.length + xs.length ≤ 9223372036854775807) :
    ∃ v' w' β', (Builtin.append_ #[t, u] ty #[v, x]).run P w = .ok v' w' ∧ Mv B β σ w β' (σ.set id (.arr true (g + 1) sz (es ++ xs))) w' ∧ SlPlace (β' id) 0 (es.length + xs.length) v' := by
  subst hsz
  have hxs' : ∀ e ∈ es ++ xs, e.length = i.size := by
    intro e he
    rcases List.mem_append.1 he with h1 | h1
    · exact (h.inv.holds id _ ho).1 e h1
    · exact hxs e h1
  -- a new block
  have grow : ∀ (base : Option Addr) (cap : Nat) (olds : List Value), Rows2 w (Zc B β σ w) i.size es olds →
      (Builtin.firstCells i.size es.length (.slice base es.length cap)).run P w.drew = .ok olds.toArray w.drew → cap < es.length + xs.length →
      ∃ v' w' β', (Builtin.append_ #[t, u] ty #[.slice base es.length cap, x]).run P w = .ok v' w' ∧ Mv B β σ w β' (σ.set id (.arr true (g + 1) i.size (es ++ xs))) w' ∧ SlPlace (β' id) 0 (es.length + xs.length) v' := by
    intro base cap olds hold hfirst hcap
    have hr := run_append_grow' (P := P) (w := w) t u ty e i z ht hu hi hz base es.length cap olds hfirst x xs.length news hx hcap hfit h63
    have hm1 := Mv.drew h
    have hge : es.length + xs.length ≤ grownCap w (es.length + xs.length) cap e := by unfold grownCap; simp only [Question.cut]; omega
    generalize hN : grownCap w (es.length + xs.length) cap e = N at hr hge
    have hall := hold.append hrows (h.inv.holds id _ ho).1
    have htail : (olds ++ news ++ (Builtin.zeroCells z.cells (N - (es.length + xs.length))).toList).length = N * i.size := by
      rw [List.length_append, hall.1, zeroCells_size, hzs, List.length_append, ← Nat.add_mul]; congr 1; omega
    refine ⟨_, _, movedBt β id (some ⟨w.heap.size, 0, i.size, N * i.size⟩), hr, hm1.trans (Mv.realloc hm1.wr ho (Nat.lt_succ_self _) rfl ?_), ?_⟩
    · intro hd
      refine ⟨hxs', rfl, ?_, ⟨_, e, (0, 0), heap_alloc_eq _ _, by simpa using htail, fun _ => rfl⟩, ?_⟩
      · simp only [List.length_append, Nat.zero_add]; exact Nat.mul_le_mul_right _ hge
      · intro k j e' y hk hj
        have hj' : j < i.size := by rw [← hxs' e' (List.mem_of_getElem? hk)]; exact get_lt hj
        have hlt : k * i.size + j < (olds ++ news).length := by rw [hall.1]; exact idx_lt (get_lt hk) hj'
        obtain ⟨hone, hrel⟩ := hall.2 k j e' y _ hk hj (List.getElem?_eq_getElem hlt)
        refine ⟨(olds ++ news)[k * i.size + j], ?_, hone, hd (hm1.drel hrel)⟩
        have := cellAt_alloc w.drew (olds ++ news ++ (Builtin.zeroCells z.cells (N - (es.length + xs.length))).toList) e (k * i.size + j)
        rw [Nat.zero_add]
        refine Eq.trans this ?_
        rw [List.getElem?_append_left hlt]; exact List.getElem?_eq_getElem hlt
    · simp only [movedBt, if_pos, SlPlace]
      exact ⟨N, by simp, hge, by simp⟩
  cases hq : β id with
  | none =>
    rw [hq] at hv
    obtain ⟨_, hn, rfl⟩ := hv
    have hes : es = [] := List.eq_nil_of_length_eq_zero hn
    subst hes
    by_cases hm : xs.length = 0
    · have hxs0 : xs = [] := List.eq_nil_of_length_eq_zero hm
      subst hxs0
      have hn0 : news = [] := by simpa using hrows.1
      subst hn0
      refine ⟨_, w, β, run_append_none' (w := w) t u ty e i ht hu hi x [] hx, ?_, by rw [hq]; exact ⟨rfl, rfl, rfl⟩⟩
      refine Mv.mark h ho (Nat.le_succ _) (fun _ => rfl) (fun _ => rfl) ?_
      intro _ _
      rw [hq]; exact ⟨by simp, rfl⟩
    · have := grow none 0 [] ⟨by simp, by simp⟩ (by simp [run_firstCells_none]) (by simp; omega)
      exact this
  | some q =>
    rw [hq] at hv
    obtain ⟨cap, rfl, hc1, hc2⟩ := hv
    obtain ⟨olds, hold, hcells⟩ := rowCells h ho hq
    obtain ⟨hlen, hp⟩ := h.inv.holds id _ ho
    rw [hq] at hp
    obtain ⟨hqs, htot, ⟨cur, T, fz, hcur, hct, hfz⟩, hrc⟩ := hp
    have := hfz rfl; subst this
    simp only [Nat.zero_mul, Nat.add_zero, Nat.zero_add] at hc2 ⊢
    rw [hqs] at hc2
    by_cases hroom : es.length + xs.length ≤ cap
    · have hb : (es.length + xs.length) * i.size ≤ cap * i.size := Nat.mul_le_mul_right _ hroom
      rw [Nat.add_mul] at hb
      have hnl := hrows.1
      have hfit2 : q.base + es.length * i.size + news.length ≤ cur.size := by rw [hnl]; omega
      have hr := run_append_room' (w := w) t u ty e i ht hu hi q.blk q.base es.length cap cur T hcur x xs.length news hx hroom hfit2
      refine ⟨_, _, β, hr, ?_, ?_⟩
      · refine Mv.write h ho rfl (Nat.le_succ _) hq hcur ?_
        intro _ hd
        refine ⟨hxs', hqs, ?_, ⟨(cur.toList.take (q.base + es.length * i.size) ++ news ++ cur.toList.drop (q.base + es.length * i.size + news.length)).toArray, T, (0, 0), ?_, ?_, fun _ => rfl⟩, ?_⟩
        · simp only [List.length_append]; rw [Nat.add_mul]; omega
        · rw [setRow_get hcur, if_pos rfl]
        · simp; omega
        · intro k j e' y hk hj
          have hs : (cur.toList.take (q.base + es.length * i.size) ++ news ++ cur.toList.drop (q.base + es.length * i.size + news.length)) = spl cur.toList (q.base + es.length * i.size) news := rfl
          rw [cellAt_setRow hcur, hs, List.getElem?_toArray, spl_get (by simpa using hfit2)]
          have hj' : j < i.size := by rw [← hxs' e' (List.mem_of_getElem? hk)]; exact get_lt hj
          rcases Nat.lt_or_ge k es.length with hl | hl
          · rw [List.getElem?_append_left hl] at hk
            obtain ⟨v, hv1, ho1, hv2⟩ := hrc k j e' y hk hj
            rw [cellAt_cells hcur] at hv1
            have := idx_lt hl hj'
            exact ⟨v, by rw [if_neg (by omega)]; simpa using hv1, ho1, hd hv2⟩
          · have hk2 := hk
            rw [List.getElem?_append_right hl] at hk
            have h1 : es.length * i.size ≤ k * i.size := Nat.mul_le_mul_right _ hl
            have h2 := idx_lt (get_lt hk2) hj'
            rw [List.length_append, Nat.add_mul] at h2
            have h4 : (k - es.length) * i.size + j < news.length := by rw [hnl, Nat.sub_mul]; omega
            obtain ⟨hone, hrel⟩ := hrows.2 (k - es.length) j e' y _ hk hj (List.getElem?_eq_getElem h4)
            refine ⟨news[(k - es.length) * i.size + j], ?_, hone, hd hrel⟩
            rw [if_pos (by omega), show q.base + k * i.size + j - (q.base + es.length * i.size) = (k - es.length) * i.size + j from by rw [Nat.sub_mul]; omega]
            exact List.getElem?_eq_getElem h4
      · rw [hq]; exact ⟨cap, by simp, hroom, by simpa [hqs] using hc2⟩
    · refine grow _ cap olds hold ?_ (by omega)
      refine run_firstCells_some (P := P) w.drew i.size es.length _ es.length cap olds (by rw [hold.1]) ?_
      intro j v hv
      have := hcells j v hv
      have hadd : (⟨q.blk, q.base, none⟩ : Addr).add j = ⟨q.blk, q.base + j, none⟩ := by unfold Addr.add; split <;> simp_all
      rw [hadd]; exact this
end
end Go.VL
namespace Go.VL
open Go

abbrev Env := Nat → PV

/-- A constant's cell. -/
def pvC : Value → PV
  | .bool b => .d (.bool b)
  | .int k n => .d (.int k n)
  | .float .f64 b => .d (.flt b)
  | .string s => .d (.str s.data.toList)
  | .pointer none => .d .nilp
  | .slice none 0 0 => .nil
  | .nilFunc => .d .nilf
  | .nilIface => .d .nili
  | _ => .any
def pvV : Value → PV
  | .agg cs => .agg (cs.toList.map pvC)
  | v => pvC v
def dC : Value → Option D
  | .bool b => some (.bool b)
  | .int k n => some (.int k n)
  | .float .f64 b => some (.flt b)
  | .string s => some (.str s.data.toList)
  | .pointer none => some .nilp
  | .slice none 0 0 => some (.fz [])
  | .nilFunc => some .nilf
  | .nilIface => some .nili
  | _ => none

def veval (env : Env) : Operand → PV
  | .tmp t => env t
  | .const v => pvV v
  | .func f => .d (.fn (.func f) [] [])
  | .global _ => .any

def PV.cells : PV → Option (List PV)
  | .any => none
  | .tup _ => none
  | .d (.agg l) => some (l.map .d)
  | .agg c => some c
  | x => some [x]

def PV.one : PV → Bool
  | .any => false
  | .tup _ => false
  | .agg _ => false
  | .d (.agg _) => false
  | _ => true

section
variable {β : Bt} {σ : St} {w : World} {Z : Nat → Prop} {P : Program}

theorem pvC_rel (v : Value) : VRel β σ w Z (pvC v) v := by
  unfold pvC
  split
  · exact .d _ _ (.bool _)
  · exact .d _ _ (.int _ _)
  · exact .d _ _ (.flt _)
  · exact .d _ _ (.str _ _ rfl)
  · exact .d _ _ .nilp
  · exact .nil
  · exact .d _ _ .nilf
  · exact .d _ _ .nili
  · exact .any _

theorem pvV_rel (v : Value) : VRel β σ w Z (pvV v) v := by
  unfold pvV
  split
  · rename_i cs
    have : VRel β σ w Z (.agg (cs.toList.map pvC)) (.agg cs.toList.toArray) := by
      refine .agg _ _ (by simp) (fun j x v hj hv => ?_)
      rw [List.getElem?_map, hv] at hj
      cases hj; exact pvC_rel v
    simpa using this
  · exact pvC_rel v

theorem dC_rel {v : Value} {x : D} (h : dC v = some x) : DRel w Z x v := by
  unfold dC at h
  split at h <;> simp at h <;> subst h
  · exact .bool _
  · exact .int _ _
  · exact .flt _
  · exact .str _ _ rfl
  · exact .nilp
  · exact .fz0 _ _ (fun _ => rfl)
  · exact .nilf
  · exact .nili

theorem veval_rel {env : Env} {a : Act} (h : ∀ t, VRel β σ w Z (env t) (a.tmps.getD t undef)) (x : Operand) : VRel β σ w Z (veval env x) (a.eval x) := by
  cases x with
  | tmp t => exact h t
  | const v => exact pvV_rel v
  | func f => exact .d _ _ (.fn _ [] [] [] [] rfl rfl (by simp) (by simp))
  | global g => exact .any _

/-- Lists of plain values and of machine values, place by place. -/
def VRelL (β : Bt) (σ : St) (w : World) (Z : Nat → Prop) (xs : List PV) (vs : List Value) : Prop :=
  xs.length = vs.length ∧ ∀ (j : Nat) (x : PV) (v : Value), xs[j]? = some x → vs[j]? = some v → VRel β σ w Z x v

theorem VRelL.one {x : PV} {v : Value} (h : VRel β σ w Z x v) : VRelL β σ w Z [x] [v] := by
  refine ⟨rfl, fun j y u hj hu => ?_⟩
  cases j with
  | zero => simp at hj hu; subst hj; subst hu; exact h
  | succ j => simp at hj

theorem cells_rel {x : PV} {v : Value} {l : List PV} (h : VRel β σ w Z x v) (hc : x.cells = some l) : ∃ vs, v.cells = vs.toArray ∧ VRelL β σ w Z l vs := by
  have scalar : ∀ {x : PV} {v : Value}, VRel β σ w Z x v → (∀ c, v ≠ .agg c) → x.cells = some [x] → x.cells = some l → ∃ vs, v.cells = vs.toArray ∧ VRelL β σ w Z l vs := by
    intro x v h hv h1 h2
    rw [h1] at h2; cases h2
    refine ⟨[v], ?_, .one h⟩
    cases v <;> first | rfl | exact absurd rfl (hv _)
  have h0 := h
  cases h with
  | any => simp [PV.cells] at hc
  | d x v hd =>
    have hd0 := hd
    cases hd with
    | agg c vs hn hr =>
      simp [PV.cells] at hc; subst hc
      refine ⟨vs, rfl, by simpa using hn, fun j x v hj hv => ?_⟩
      rw [List.getElem?_map] at hj
      cases hcj : c[j]? with
      | none => rw [hcj] at hj; simp at hj
      | some y => rw [hcj] at hj; simp at hj; subst hj; exact .d _ _ (hr j y v hcj hv)
    | _ => exact scalar h0 (by simp) rfl hc
  | agg c vs hn hr => simp [PV.cells] at hc; subst hc; exact ⟨vs, rfl, hn, hr⟩
  | tup c vs hn hr => simp [PV.cells] at hc
  | nil => exact scalar h0 (by simp) rfl hc
  | nz a cap => exact scalar h0 (by simp) rfl hc
  | sl id g s n a m c o ho hg hp => exact scalar h0 (by simp) rfl hc
  | ptr id g i off a o ho hg hp => exact scalar h0 (by simp) rfl hc
  | fn f a b va vb ha hb hra hrb => exact scalar h0 (by simp) rfl hc

theorem one_rel {x : PV} {v : Value} (h : VRel β σ w Z x v) (h1 : x.one = true) : v.oneCell' = true := by
  cases h with
  | any => simp [PV.one] at h1
  | d x v hd => cases hd <;> first | rfl | simp [PV.one] at h1
  | agg => simp [PV.one] at h1
  | tup => simp [PV.one] at h1
  | _ => rfl

/-- Data of a value: what it holds where it is looked at only. -/
def toD (σ : St) : Nat → PV → Option D
  | 0, _ => none
  | _ + 1, .d x => some x
  | _ + 1, .nil => some (.fz [])
  | _ + 1, .nz => some (.fz [])
  | _ + 1, .sl id g s k => match σ[id]? with
    | some (.arr _ g' _ es) => if g' = g ∧ s + k ≤ es.length then some (.fz ((es.drop s).take k)) else none
    | _ => none
  | n + 1, .ptr id g i off => match σ[id]? with
    | some (.box _ g' c) => if g' = g ∧ i = 0 then ((c.drop off).mapM (toD σ n)).map .fp else none
    | some (.arr _ g' _ es) => if g' = g then (es[i]?).map (fun e => .fp (e.drop off)) else none
    | _ => none
  | n + 1, .agg c => (c.mapM (toD σ n)).map .agg
  | n + 1, .fn f a b => match a.mapM (toD σ n), b.mapM (toD σ n) with
    | some x, some y => some (.fn f x y)
    | _, _ => none
  | _, _ => none

theorem mapM_some {α γ : Type} {f : α → Option γ} : ∀ {l : List α} {r : List γ}, l.mapM f = some r → l.length = r.length ∧ ∀ (j : Nat) (x : α) (y : γ), l[j]? = some x → r[j]? = some y → f x = some y
  | [], r, h => by simp at h; subst h; simp
  | a :: l, r, h => by
    rw [List.mapM_cons] at h
    cases ha : f a with
    | none => simp [ha] at h
    | some b =>
      cases hl : l.mapM f with
      | none => simp [ha, hl] at h
      | some s =>
        simp [ha, hl] at h; subst h
        obtain ⟨h1, h2⟩ := mapM_some hl
        refine ⟨by simp [h1], fun j x y hx hy => ?_⟩
        cases j with
        | zero => simp at hx hy; subst hx; subst hy; exact ha
        | succ j => simp at hx hy; exact h2 j x y hx hy

theorem Inv.lt {B : Base} (h : WR B β σ w) {id : Nat} {o : Ob} {q : Pl} (ho : σ[id]? = some o) (ha : o.alive = true) (hq : β id = some q) : q.blk < w.heap.size :=
  (hq ▸ h.inv.holds id o ho).lt ha

/-- The objects that a value's data lie in. -/
def ids (σ : St) : Nat → PV → List Nat
  | 0, _ => []
  | _ + 1, .sl id _ _ _ => [id]
  | n + 1, .ptr id _ _ _ => id :: (match σ[id]? with
    | some (.box _ _ c) => c.flatMap (ids σ n)
    | _ => [])
  | n + 1, .agg c => c.flatMap (ids σ n)
  | n + 1, .fn _ a b => a.flatMap (ids σ n) ++ b.flatMap (ids σ n)
  | _, _ => []

/-- A value's data: they lie in blocks that are there. -/
theorem toD_gen {B : Base} (h : WR B β σ w) {Z : Nat → Prop} (hz : ∀ b, Zc B β σ w b → Z b) : ∀ (n : Nat) (x : PV) (v : Value) (y : D), toD σ n x = some y → VRel β σ w (Zc B β σ w) x v →
    (∀ id ∈ ids σ n x, ∀ o q, σ[id]? = some o → o.alive = true → β id = some q → Z q.blk) → DRel w Z y v := by
  have hd : ∀ {y v}, DRel w (Zc B β σ w) y v → DRel w Z y v := fun hv => hv.mono (fun _ _ _ _ h => h) hz
  intro n
  induction n with
  | zero => intro x v y hx; simp [toD] at hx
  | succ n ih =>
    intro x v y hx hv hids
    cases hv with
    | any => simp [toD] at hx
    | d x v hd' => simp [toD] at hx; subst hx; exact hd hd'
    | nil => simp [toD] at hx; subst hx; exact .fz0 _ _ (fun _ => rfl)
    | nz a cap => simp [toD] at hx; subst hx; exact .fz0 _ _ (fun h => by simp at h)
    | sl id g s k a m c o ho hg hp =>
      simp only [toD, ho] at hx
      cases o with
      | arr lv g' sz es =>
        simp only at hx
        split at hx
        · rename_i hc
          cases hx
          have hpl := hp hc.1 rfl
          obtain ⟨hlen, hh⟩ := h.inv.holds id _ ho
          cases hq : β id with
          | none =>
            rw [hq] at hpl hh; obtain ⟨hs, hk, he⟩ := hpl
            cases he; subst hk; simp; exact .fz0 _ _ (fun _ => rfl)
          | some q =>
            rw [hq] at hpl hh
            obtain ⟨cap, he, hcap, hfit⟩ := hpl
            cases he
            obtain ⟨hqs, htot, ⟨cur, t, fz, hcur, hct, hfz⟩, hcells⟩ := hh
            have hlk : ((es.drop s).take k).length = k := by simp; omega
            have key : DRel w Z (.fz ((es.drop s).take k)) (.slice (some ⟨q.blk, q.base + s * q.sz, none⟩) ((es.drop s).take k).length c) := by
              refine .fz _ _ _ _ sz (fun i j => (cellAt w q.blk (q.base + s * q.sz + i * sz + j)).getD undef) (by omega) ?_ (hids id (by simp [ids]) _ q ho rfl hq) ?_ ?_
              · intro e he; exact hlen e (List.mem_of_mem_drop (List.mem_of_mem_take he))
              · intro i j hi hj
                have hi' : s + i < es.length := by omega
                have hj' : j < (es[s + i]).length := by rw [hlen _ (List.getElem_mem hi')]; exact hj
                obtain ⟨v, hv1, ho1, _⟩ := hcells (s + i) j es[s + i] (es[s + i][j]) (List.getElem?_eq_getElem hi') (List.getElem?_eq_getElem hj')
                have e2 : q.base + s * q.sz + i * sz + j = q.base + (s + i) * sz + j := by rw [hqs, Nat.add_mul]; omega
                rw [e2, hv1]; exact ⟨rfl, ho1⟩
              · intro i j e x hi hj
                rw [List.getElem?_take] at hi
                split at hi
                · rw [List.getElem?_drop] at hi
                  obtain ⟨v, hv1, _, hv2⟩ := hcells (s + i) j e x hi hj
                  have e2 : q.base + s * q.sz + i * sz + j = q.base + (s + i) * sz + j := by rw [hqs, Nat.add_mul]; omega
                  rw [e2, hv1]; exact hd hv2
                · simp at hi
            rw [hlk] at key; exact key
        · simp at hx
      | box => simp at hx
      | dead => simp at hx
    | ptr id g i off a o ho hg hp =>
      simp only [toD, ho] at hx
      cases o with
      | box lv g' c =>
        simp only at hx
        split at hx
        · rename_i hc
          obtain ⟨q', hq', he⟩ := hp hc.1 rfl
          cases he
          obtain ⟨q, hq, hsz, htot, ⟨cur, t, fz, hcur, hct, hfz⟩, hcells⟩ := h.inv.holds id _ ho
          rw [hq'] at hq; cases hq
          cases hm : (c.drop off).mapM (toD σ n) with
          | none => simp [hm] at hx
          | some r =>
            simp [hm] at hx; subst hx
            obtain ⟨hl, hf⟩ := mapM_some hm
            have hcell : ∀ (j : Nat) (x : PV), (c.drop off)[j]? = some x → ∃ v, cellAt w q'.blk (q'.base + i * q'.sz + off + j) = some v ∧ VRel β σ w (Zc B β σ w) x v := by
              intro j x hj
              rw [List.getElem?_drop] at hj
              obtain ⟨v, hv1, hv2⟩ := hcells (off + j) x hj
              rw [hc.2]; simp only [Nat.zero_mul, Nat.add_zero]
              exact ⟨v, by rw [Nat.add_assoc]; exact hv1, hv2⟩
            refine .fp _ _ _ (fun j => (cellAt w q'.blk (q'.base + i * q'.sz + off + j)).getD undef) (hids id (by simp [ids]) _ q' ho rfl hq') ?_ ?_
            · intro j hj
              rw [← hl] at hj
              obtain ⟨v, hv1, _⟩ := hcell j _ (List.getElem?_eq_getElem hj)
              rw [hv1]; rfl
            · intro j y hj
              have hj' := get_lt hj
              rw [← hl] at hj'
              obtain ⟨v, hv1, hv2⟩ := hcell j _ (List.getElem?_eq_getElem hj')
              rw [hv1]
              exact ih _ _ _ (hf j _ y (List.getElem?_eq_getElem hj') hj) hv2 (fun id' hid' => hids id' (by
                simp only [ids, ho, List.mem_cons, List.mem_flatMap]
                exact .inr ⟨_, List.mem_of_mem_drop (List.getElem_mem hj'), hid'⟩))
        · simp at hx
      | arr lv g' sz es =>
        simp only at hx
        split at hx
        · rename_i hc
          obtain ⟨q', hq', he⟩ := hp hc rfl
          cases he
          obtain ⟨hlen, hh⟩ := h.inv.holds id _ ho
          rw [hq'] at hh
          obtain ⟨hqs, htot, ⟨cur, t, fz, hcur, hct, hfz⟩, hcells⟩ := hh
          cases hi : es[i]? with
          | none => simp [hi] at hx
          | some e =>
            simp [hi] at hx; subst hx
            refine .fp _ _ _ (fun j => (cellAt w q'.blk (q'.base + i * q'.sz + off + j)).getD undef) (hids id (by simp [ids]) _ q' ho rfl hq') ?_ ?_
            · intro j hj
              have hj' : off + j < e.length := by simp at hj; omega
              obtain ⟨v, hv1, _⟩ := hcells i (off + j) e _ hi (List.getElem?_eq_getElem hj')
              rw [hqs, Nat.add_assoc, hv1]; rfl
            · intro j y hj
              rw [List.getElem?_drop] at hj
              obtain ⟨v, hv1, _, hv2⟩ := hcells i (off + j) e y hi hj
              rw [hqs, Nat.add_assoc, hv1]; exact hd hv2
        · simp at hx
      | dead => simp at hx
    | agg c vs hn hr =>
      cases hm : c.mapM (toD σ n) with
      | none => simp [toD, hm] at hx
      | some r =>
        simp [toD, hm] at hx; subst hx
        obtain ⟨hl, hf⟩ := mapM_some hm
        refine .agg _ _ (by omega) (fun j y u hj hu => ?_)
        have hj' := get_lt hj; rw [← hl] at hj'
        exact ih _ _ _ (hf j _ y (List.getElem?_eq_getElem hj') hj) (hr j _ u (List.getElem?_eq_getElem hj') hu) (fun id' hid' => hids id' (by
          simp only [ids, List.mem_flatMap]; exact ⟨_, List.getElem_mem hj', hid'⟩))
    | tup => simp [toD] at hx
    | fn f a b va vb ha hb hra hrb =>
      cases hm : a.mapM (toD σ n) with
      | none => simp [toD, hm] at hx
      | some r =>
        cases hm2 : b.mapM (toD σ n) with
        | none => simp [toD, hm, hm2] at hx
        | some r2 =>
          simp [toD, hm, hm2] at hx; subst hx
          obtain ⟨hl, hf⟩ := mapM_some hm
          obtain ⟨hl2, hf2⟩ := mapM_some hm2
          refine .fn _ _ _ _ _ (by omega) (by omega) (fun j y u hj hu => ?_) (fun j y u hj hu => ?_)
          · have hj' := get_lt hj; rw [← hl] at hj'
            exact ih _ _ _ (hf j _ y (List.getElem?_eq_getElem hj') hj) (hra j _ u (List.getElem?_eq_getElem hj') hu) (fun id' hid' => hids id' (by
              simp only [ids, List.mem_append, List.mem_flatMap]; exact .inl ⟨_, List.getElem_mem hj', hid'⟩))
          · have hj' := get_lt hj; rw [← hl2] at hj'
            exact ih _ _ _ (hf2 j _ y (List.getElem?_eq_getElem hj') hj) (hrb j _ u (List.getElem?_eq_getElem hj') hu) (fun id' hid' => hids id' (by
              simp only [ids, List.mem_append, List.mem_flatMap]; exact .inr ⟨_, List.getElem_mem hj', hid'⟩))

/-- A value's data, where it is looked at only: they lie in blocks that are there. -/
theorem toD_rel {B : Base} (h : WR B β σ w) (n : Nat) (x : PV) (v : Value) (y : D) (hx : toD σ n x = some y) (hv : VRel β σ w (Zc B β σ w) x v) : DRel w (fun b => b < w.heap.size) y v :=
  toD_gen h (fun _ hb => hb.2.2) n x v y hx hv (fun _ _ _ _ ho ha hq => Inv.lt h ho ha hq)

/-- One object is written no more. -/
def frz1 (σ : St) (id : Nat) : St :=
  match σ[id]? with
  | some (.arr _ g sz es) => σ.set id (.arr false g sz es)
  | some (.box _ g c) => σ.set id (.box false g c)
  | _ => σ
def frz (n : Nat) (σ : St) (x : PV) : St := (ids σ n x).foldl frz1 σ

theorem Holds.frozen {lv : Bool} {g : Nat} {c : List PV} {Z : Nat → Prop} {p : Option Pl} (h : Holds β σ w Z p (.box lv g c)) : Holds β σ w Z p (.box false g c) := by
  obtain ⟨q, hq, h1, h2, ⟨a, T, fz, h3, h4, _⟩, h5⟩ := h
  exact ⟨q, hq, h1, h2, ⟨a, T, fz, h3, h4, by simp⟩, h5⟩
theorem Holds.frozen' {lv : Bool} {g sz : Nat} {es : List (List D)} {Z : Nat → Prop} {p : Option Pl} (h : Holds β σ w Z p (.arr lv g sz es)) : Holds β σ w Z p (.arr false g sz es) := by
  obtain ⟨h1, h2⟩ := h
  refine ⟨h1, ?_⟩
  cases p with
  | none => exact h2
  | some q => obtain ⟨h3, h4, ⟨a, T, fz, h5, h6, _⟩, h7⟩ := h2; exact ⟨h3, h4, ⟨a, T, fz, h5, h6, by simp⟩, h7⟩

theorem frz1_get (σ : St) (id j : Nat) (o : Ob) (h : σ[j]? = some o) : ∃ o', (frz1 σ id)[j]? = some o' ∧ o'.alive = o.alive ∧ (j = id → o'.live = false) ∧ (o.live = false → o'.live = false) ∧ (j ≠ id → o' = o) := by
  unfold frz1
  split
  · rename_i lv g sz es hi
    by_cases e : j = id
    · subst e; rw [hi] at h; cases h
      exact ⟨_, set_self hi, rfl, fun _ => rfl, fun _ => rfl, fun h => absurd rfl h⟩
    · exact ⟨o, by rw [List.getElem?_set_ne (fun h => e h.symm)]; exact h, rfl, fun h => absurd h e, fun h => h, fun _ => rfl⟩
  · rename_i lv g c hi
    by_cases e : j = id
    · subst e; rw [hi] at h; cases h
      exact ⟨_, set_self hi, rfl, fun _ => rfl, fun _ => rfl, fun h => absurd rfl h⟩
    · exact ⟨o, by rw [List.getElem?_set_ne (fun h => e h.symm)]; exact h, rfl, fun h => absurd h e, fun h => h, fun _ => rfl⟩
  · rename_i h1 h2
    refine ⟨o, h, rfl, fun e => ?_, fun h => h, fun _ => rfl⟩
    subst e
    cases o with
    | arr => exact absurd h (h1 _ _ _ _)
    | box => exact absurd h (h2 _ _ _)
    | dead => rfl

theorem Mv.frz1 {B : Base} (h : WR B β σ w) (id : Nat) : Mv B β σ w β (frz1 σ id) w := by
  unfold VL.frz1
  split
  · rename_i lv g sz es hi
    refine Mv.mark h hi (Nat.le_refl _) (fun _ => rfl) (fun h => by simp [Ob.live] at h) (fun hv hd => ?_)
    have h0 := h.inv.holds id _ hi
    have hz : ∀ b, Zc B β σ w b → Zc B β (σ.set id (.arr false g sz es)) w b := fun b hb => ⟨hb.1, fun ho => hb.2.1 (Own.set hi (fun h => by simp [Ob.live] at h) ho), hb.2.2⟩
    exact (h0.frozen').mono (Ext.set hi (Nat.le_refl _) (fun _ => rfl)) (fun _ _ _ _ h => h) hz (fun _ _ _ => rfl)
  · rename_i lv g c hi
    refine Mv.mark h hi (Nat.le_refl _) (fun _ => rfl) (fun h => by simp [Ob.live] at h) (fun hv hd => ?_)
    have h0 := h.inv.holds id _ hi
    have hz : ∀ b, Zc B β σ w b → Zc B β (σ.set id (.box false g c)) w b := fun b hb => ⟨hb.1, fun ho => hb.2.1 (Own.set hi (fun h => by simp [Ob.live] at h) ho), hb.2.2⟩
    exact (h0.frozen).mono (Ext.set hi (Nat.le_refl _) (fun _ => rfl)) (fun _ _ _ _ h => h) hz (fun _ _ _ => rfl)
  · exact Mv.refl h

theorem frzs_sound {B : Base} : ∀ (l : List Nat) (σ : St), WR B β σ w → Mv B β σ w β (l.foldl VL.frz1 σ) w ∧
    ∀ (j : Nat) (o : Ob), σ[j]? = some o → ∃ o', (l.foldl VL.frz1 σ)[j]? = some o' ∧ o'.alive = o.alive ∧ (j ∈ l → o'.live = false) ∧ (o.live = false → o'.live = false)
  | [], σ, h => ⟨Mv.refl h, fun j o ho => ⟨o, ho, rfl, by simp, fun h => h⟩⟩
  | id :: l, σ, h => by
    have h1 := Mv.frz1 h id
    obtain ⟨h2, h3⟩ := frzs_sound l (VL.frz1 σ id) h1.wr
    refine ⟨h1.trans h2, fun j o ho => ?_⟩
    obtain ⟨o1, ho1, ha1, hl1, hl2, _⟩ := frz1_get σ id j o ho
    obtain ⟨o2, ho2, ha2, hl3, hl4⟩ := h3 j o1 ho1
    refine ⟨o2, ho2, ha2.trans ha1, fun hm => ?_, fun hl => hl4 (hl2 hl)⟩
    rcases List.mem_cons.1 hm with e | hm
    · exact hl4 (hl1 e)
    · exact hl3 hm

/-- What an activation was given is in order: what is written no more lies in blocks that stay. -/
structure Base.ok (B : Base) : Prop where
  frz : ∀ (id : Nat) (o : Ob) (q : Pl), B.σ[id]? = some o → o.alive = true → o.live = false → B.β id = some q → B.Zp q.blk
  old : ∀ b, B.Zp b → b < B.w.heap.size ∧ ¬ Own B.β B.σ b

/-- A value is turned into data for good: what it lies in is written no more. -/
theorem close_sound {B : Base} (h : WR B β σ w) (n : Nat) (x : PV) (v : Value) (y : D) (hx : toD σ n x = some y) (hv : VRel β σ w (Zc B β σ w) x v)
    (hnew : ∀ id ∈ ids σ n x, B.σ.length ≤ id) : Mv B β σ w β (frz n σ x) w ∧ DRel w (Zc B β (frz n σ x) w) y v := by
  obtain ⟨hm, hl⟩ := frzs_sound (ids σ n x) σ h
  refine ⟨hm, toD_gen h hm.zc n x v y hx hv (fun id hid o q ho ha hq => ?_)⟩
  have hlt := Inv.lt h ho ha hq
  obtain ⟨o', ho', ha', hl', _⟩ := hl id o ho
  have hlf := hl' hid
  refine ⟨?_, fun hown => ?_, hlt⟩
  · rcases h.place id o q ho ha hq with h1 | ⟨o0, q0, h1, _⟩
    · exact .inr h1
    · have := get_lt h1; have := hnew id hid; omega
  · obtain ⟨j, oj, p, hj, hlj, hp, hb⟩ := hown
    have hj : ((ids σ n x).foldl VL.frz1 σ)[j]? = some oj := hj
    by_cases e : j = id
    · subst e
      rw [ho'] at hj
      cases hj; rw [hlf] at hlj; simp at hlj
    · exact hm.wr.inv.apart j oj id o' p q hj ho' hlj (by rw [ha', ha]) e hp hq hb
end
end Go.VL
namespace Go.VL
open Go

/-- An operation's run comes to a plain value. -/
def Runs (P : Program) (B : Base) (β : Bt) (σ : St) (w : World) (o : Oper) (ρ : Operand → Value) (x : PV) (σ' : St) : Prop :=
  ∃ v w' β', ((execOp ρ o).run P w = .ok (.value v) w' ∨ ((execOp ρ o).run P w = .ok .skip w' ∧ v = undef)) ∧ Mv B β σ w β' σ' w' ∧ VRel β' σ' w' (Zc B β' σ' w') x v

def vint (k : IntKind) (op : BinOp) (a b : Int) : Option D :=
  match op with
  | .add => some (.int k (k.wrap (a + b)))
  | .sub => some (.int k (k.wrap (a - b)))
  | .mul => some (.int k (k.wrap (a * b)))
  | .quo => if b = 0 then none else some (.int k (k.wrap (a.tdiv b)))
  | .rem => if b = 0 then none else some (.int k (a.tmod b))
  | .and => some (.int k (k.wrap (BitVec.ofInt k.bits a &&& BitVec.ofInt k.bits b).toNat))
  | .or => some (.int k (k.wrap (BitVec.ofInt k.bits a ||| BitVec.ofInt k.bits b).toNat))
  | .xor => some (.int k (k.wrap (BitVec.ofInt k.bits a ^^^ BitVec.ofInt k.bits b).toNat))
  | .andNot => some (.int k (k.wrap (BitVec.ofInt k.bits a &&& ~~~BitVec.ofInt k.bits b).toNat))
  | .eql => some (.bool (a == b))
  | .neq => some (.bool (a != b))
  | .lss => some (.bool (a < b))
  | .leq => some (.bool (a ≤ b))
  | .gtr => some (.bool (a > b))
  | .geq => some (.bool (a ≥ b))
  | _ => none

def vshift (k : IntKind) (op : BinOp) (a b : Int) : Option D :=
  if b < 0 then none else
  match op with
  | .shl => some (.int k (k.wrap (a * 2 ^ min b.toNat k.bits)))
  | .shr => some (.int k (a.fdiv (2 ^ min b.toNat k.bits)))
  | _ => none

def vflt (op : BinOp) (x y : Nat) : Option D :=
  match op with
  | .add => (FloatKind.f64.format.add x y).map .flt
  | .sub => (FloatKind.f64.format.sub x y).map .flt
  | .mul => (FloatKind.f64.format.mul x y).map .flt
  | .quo => (FloatKind.f64.format.div x y).map .flt
  | .eql => some (.bool (FloatKind.f64.format.order x y == some .eq))
  | .neq => some (.bool (FloatKind.f64.format.order x y != some .eq))
  | .lss => some (.bool (FloatKind.f64.format.order x y == some .lt))
  | .leq => some (.bool (FloatKind.f64.format.order x y == some .lt || FloatKind.f64.format.order x y == some .eq))
  | .gtr => some (.bool (FloatKind.f64.format.order x y == some .gt))
  | .geq => some (.bool (FloatKind.f64.format.order x y == some .gt || FloatKind.f64.format.order x y == some .eq))
  | _ => none

def vstr (op : BinOp) (x y : List UInt8) : Option D :=
  match op with
  | .add => if x.length + y.length ≤ 9223372036854775807 then some (.str (x ++ y)) else none
  | .eql => some (.bool (x == y))
  | .neq => some (.bool !(x == y))
  | .lss => some (.bool (Op.bytesLess x y))
  | .leq => some (.bool (Op.bytesLess x y || x == y))
  | .gtr => some (.bool !(Op.bytesLess x y || x == y))
  | .geq => some (.bool !(Op.bytesLess x y))
  | _ => none

def isConstO : Operand → Bool
  | .const _ => true
  | _ => false

/-- A value that is told as nil or not, held against nil. -/
def nilness (σ : St) : PV → Option Bool
  | .d .nilp => some true
  | .d (.fp _) => some false
  | .ptr id g _ _ => match σ[id]? with
    | some o => if o.gen = g ∧ o.alive = true then some false else none
    | none => none
  | .d .nili => some true
  | .d (.ifc _ _) => some false
  | _ => none

def nilPtr : PV → Bool
  | .d .nili => false
  | .d (.ifc _ _) => false
  | _ => true

def vbin (P : Program) (op : BinOp) (t : TypeId) (x y : PV) : Option D :=
  match x, y with
  | .d (.int k a), .d (.int k' b) => match op with
    | .shl => vshift k .shl a b
    | .shr => vshift k .shr a b
    | op => if k = k' then vint k op a b else none
  | .d (.flt a), .d (.flt b) => vflt op a b
  | .d (.str a), .d (.str b) => vstr op a b
  | .d (.bool a), .d (.bool b) => match P.underlying t, op with
    | some .bool, .eql => some (.bool (a == b))
    | some .bool, .neq => some (.bool !(a == b))
    | _, _ => none
  | _, _ => none

def nilTy (P : Program) (t : TypeId) (ptr : Bool) : Bool :=
  match P.underlying t with
  | some (.pointer _) => ptr
  | some (.interface _) => !ptr
  | _ => false

/-- Held against nil: a pointer, an interface value. -/
def vnil (P : Program) (σ : St) (op : BinOp) (t : TypeId) (x : PV) (ptr : Bool) : Option D :=
  match nilness σ x with
  | none => none
  | some b =>
    if nilTy P t ptr = true ∧ nilPtr x = ptr then
      match op with
      | .eql => some (.bool b)
      | .neq => some (.bool !b)
      | _ => none
    else none

/-- A slice held against nil. -/
def snil (σ : St) : PV → Option Bool
  | .nil => some true
  | .nz => some false
  | .d (.fz l) => if 0 < l.length then some false else none
  | .sl id g _ n => if 0 < n then (match σ[id]? with
    | some o => if o.gen = g ∧ o.alive = true then some false else none
    | none => none) else none
  | _ => none
def vsnil (P : Program) (σ : St) (op : BinOp) (t : TypeId) (x : PV) : Option D :=
  match snil σ x, P.underlying t with
  | some b, some (.slice _) => match op with
    | .eql => some (.bool b)
    | .neq => some (.bool !b)
    | _ => none
  | _, _ => none

section
variable {P : Program} {B : Base} {β : Bt} {σ : St} {w : World} {Z : Nat → Prop}

theorem snil_rel {x : PV} {v : Value} {b : Bool} (h : snil σ x = some b) (hv : VRel β σ w Z x v) : ∃ a n c, v = .slice a n c ∧ a.isNone = b := by
  cases hv with
  | nil => simp [snil] at h; subst h; exact ⟨_, _, _, rfl, rfl⟩
  | nz a c => simp [snil] at h; subst h; exact ⟨_, _, _, rfl, rfl⟩
  | d x v hd =>
    cases hd with
    | fz0 a cap h0 => simp [snil] at h
    | fz l b off cap sz f =>
      simp only [snil] at h
      split at h
      · cases h; exact ⟨_, _, _, rfl, rfl⟩
      · simp at h
    | _ => simp [snil] at h
  | sl id g s n a m c o ho hg hp =>
    simp only [snil, ho] at h
    split at h
    · rename_i hn
      split at h
      · rename_i hc
        cases h
        have := hp hc.1 hc.2
        unfold SlPlace at this
        split at this
        · omega
        · obtain ⟨cap, he, _⟩ := this; cases he; exact ⟨_, _, _, rfl, rfl⟩
      · simp at h
    · simp at h
  | _ => simp [snil] at h

theorem run_eqGuard_of {op : BinOp} {t : TypeId} {x y : Operand} {a b : Value} (h : ¬ (a = .nilIface ∧ b = .nilIface) ∨ isConstO y = true) (h2 : ¬ ∃ c d, a = .agg c ∧ b = .agg d) :
    (eqGuard op t x y a b).run P w = .ok () w := by
  have key : ∀ o : BinOp, o = .eql ∨ o = .neq → (eqGuard o t x y a b).run P w = .ok () w := by
    intro o ho
    have e : (!(match o with | .eql => true | .neq => true | _ => false)) = false := by rcases ho with rfl | rfl <;> rfl
    unfold eqGuard
    rcases ho with rfl | rfl
    all_goals
      simp only [Bool.not_true, Bool.false_eq_true, if_false]
      split
      · rcases h with h | h
        · exact absurd ⟨rfl, rfl⟩ h
        · cases y <;> simp [isConstO] at h
          simp
      · exact absurd ⟨_, _, rfl, rfl⟩ h2
      · rfl
  cases op <;> first | exact key _ (.inl rfl) | exact key _ (.inr rfl) | rfl

theorem vint_run {k : IntKind} {op : BinOp} {t : TypeId} {a b : Int} {r : D} (h : vint k op a b = some r) :
    ∃ v, (binOp op t (.int k a) (.int k b)).run P w = .ok v w ∧ ∀ Z, DRel w Z r v := by
  by_cases hq : op = .quo ∨ op = .rem
  · have h0 : b ≠ 0 := by
      rintro rfl
      rcases hq with rfl | rfl <;> simp [vint] at h
    rcases hq with rfl | rfl <;> simp [vint, h0] at h <;> subst h
    all_goals (refine ⟨_, ?_, fun _ => .int _ _⟩; simp [binOp, Op.intDiv, h0])
  · cases op <;> simp only [vint] at h <;> (try simp at h) <;> (try subst h)
    all_goals first
      | (refine ⟨_, ?_, fun _ => .int _ _⟩; simp [binOp, Op.intArith]; done)
      | (refine ⟨_, ?_, fun _ => .int _ _⟩; simp only [binOp, ne_eq, not_true_eq_false, if_false]; simp [Op.intBits]; done)
      | (refine ⟨_, ?_, fun _ => .int _ _⟩; simp only [binOp, ne_eq, not_true_eq_false, if_false]; rfl)
      | (refine ⟨_, ?_, fun _ => .bool _⟩; simp [binOp, Op.intCmp]; done)
      | exact absurd (.inl rfl) hq
      | exact absurd (.inr rfl) hq

theorem vshift_run {k k' : IntKind} {op : BinOp} {t : TypeId} {a b : Int} {r : D} (h : vshift k op a b = some r) :
    ∃ v, (binOp op t (.int k a) (.int k' b)).run P w = .ok v w ∧ ∀ Z, DRel w Z r v := by
  unfold vshift at h
  split at h
  · simp at h
  · rename_i hb
    cases op <;> simp at h <;> subst h
    all_goals exact ⟨_, by simp [binOp, Op.shift, hb], fun _ => .int _ _⟩

theorem vflt_run {op : BinOp} {t : TypeId} {a b : Nat} {r : D} (h : vflt op a b = some r) :
    ∃ v, (binOp op t (.float .f64 a) (.float .f64 b)).run P w = .ok v w ∧ ∀ Z, DRel w Z r v := by
  cases op <;> simp only [vflt] at h <;> (try simp at h) <;> (try subst h)
  all_goals first
    | exact ⟨_, by simp [binOp, Op.floatCmp], fun _ => .bool _⟩
    | (obtain ⟨q, hq, rfl⟩ := h; exact ⟨_, by simp [binOp, Op.floatArith, hq], fun _ => .flt _⟩)

theorem size_len (s : ByteArray) : s.size = s.data.toList.length := by cases s; rfl

theorem vstr_run {op : BinOp} {t : TypeId} {a b : ByteArray} {r : D} (h : vstr op a.data.toList b.data.toList = some r) :
    ∃ v, (binOp op t (.string a) (.string b)).run P w = .ok v w ∧ ∀ Z, DRel w Z r v := by
  cases op <;> simp only [vstr] at h <;> (try simp at h) <;> (try subst h)
  all_goals first
    | exact ⟨_, by simp [binOp, Op.stringOp, ByteArray.toList_eq], fun _ => .bool _⟩
    | (obtain ⟨h0, rfl⟩ := h
       refine ⟨.string (a ++ b), ?_, fun _ => .str _ _ (by simp)⟩
       have h1 : ¬ ((((a.size + b.size : Nat)) : Int) > IntKind.i64.max) := by
         have : IntKind.i64.max = 9223372036854775807 := rfl
         omega
       simp only [binOp, Op.stringOp]
       rw [if_neg h1]; rfl)

theorem nilness_rel {x : PV} {v : Value} {b : Bool} (h : nilness σ x = some b) (hv : VRel β σ w Z x v) :
    if nilPtr x then ∃ a, v = .pointer a ∧ a.isNone = b else (v = .nilIface ∧ b = true) ∨ (∃ t u, v = .iface t u) ∧ b = false := by
  cases hv with
  | any => simp [nilness] at h
  | d x v hd => cases hd <;> simp [nilness] at h <;> subst h <;> simp [nilPtr]
  | ptr id g i off a o ho hg hp =>
    simp only [nilness, ho] at h
    split at h
    · rename_i hc
      cases h
      obtain ⟨q, _, he⟩ := hp hc.1 hc.2
      cases he; simp [nilPtr]
    · simp at h
  | _ => simp [nilness] at h

theorem equalIn_ptr {t e : TypeId} (h : P.underlying t = some (.pointer e)) (a : Option Addr) (d : Nat) : (Op.equalIn (d + 1) t (.pointer a) (.pointer none)).run P w = .ok a.isNone w := by
  cases a <;> simp [Op.equalIn, run_underlying h]
theorem equalIn_nil {t : TypeId} {ms : Array (String × TypeId)} (h : P.underlying t = some (.interface ms)) (d : Nat) : (Op.equalIn (d + 1) t .nilIface .nilIface).run P w = .ok true w := by
  simp [Op.equalIn, run_underlying h]
theorem equalIn_iface {t t' : TypeId} {u : Value} {ms : Array (String × TypeId)} (h : P.underlying t = some (.interface ms)) (d : Nat) : (Op.equalIn (d + 1) t (.iface t' u) .nilIface).run P w = .ok false w := by
  simp [Op.equalIn, run_underlying h]
theorem equalIn_slice {t e : TypeId} (h : P.underlying t = some (.slice e)) (a : Option Addr) (n c d : Nat) : (Op.equalIn (d + 1) t (.slice a n c) (.slice none 0 0)).run P w = .ok a.isNone w := by
  cases a <;> simp [Op.equalIn, run_underlying h]
theorem equalIn_bool {t : TypeId} (h : P.underlying t = some .bool) (a b : Bool) (d : Nat) : (Op.equalIn (d + 1) t (.bool a) (.bool b)).run P w = .ok (a == b) w := by
  simp [Op.equalIn, run_underlying h]
theorem run_eql {t : TypeId} {a b : Value} {r : Bool} (h : ∀ d, (Op.equalIn (d + 1) t a b).run P w = .ok r w) (hb : binOp .eql t a b = (do pure (.bool (← Op.equal t a b)))) : (binOp .eql t a b).run P w = .ok (.bool r) w := by
  have : (Op.equal t a b).run P w = .ok r w := h 9999
  rw [hb]; simp [this]
theorem run_neq {t : TypeId} {a b : Value} {r : Bool} (h : ∀ d, (Op.equalIn (d + 1) t a b).run P w = .ok r w) (hb : binOp .neq t a b = (do pure (.bool (!(← Op.equal t a b))))) : (binOp .neq t a b).run P w = .ok (.bool (!r)) w := by
  have : (Op.equal t a b).run P w = .ok r w := h 9999
  rw [hb]; simp [this]

theorem vbin_val {op : BinOp} {t : TypeId} {x y : PV} {a b : Value} {r : D} (hx : VRel β σ w Z x a) (hy : VRel β σ w Z y b) (h : vbin P op t x y = some r) :
    ¬ (a = .nilIface ∧ b = .nilIface) ∧ (¬ ∃ c d, a = .agg c ∧ b = .agg d) ∧ ∃ v, (binOp op t a b).run P w = .ok v w ∧ ∀ Z, DRel w Z r v := by
  cases hy with
  | d y b hdy =>
    cases hx with
    | d x a hdx =>
      cases hdy with
      | int k' b =>
        cases hdx with
        | int k a =>
          refine ⟨by simp, by simp, ?_⟩
          simp only [vbin] at h
          split at h
          · exact vshift_run h
          · exact vshift_run h
          · split at h
            · rename_i hk; subst hk; exact vint_run h
            · simp at h
        | _ => simp [vbin] at h
      | flt b =>
        cases hdx with
        | flt a => exact ⟨by simp, by simp, vflt_run h⟩
        | _ => simp [vbin] at h
      | str l s hs =>
        cases hdx with
        | str l' s' hs' => subst hs; subst hs'; exact ⟨by simp, by simp, vstr_run h⟩
        | _ => simp [vbin] at h
      | bool b =>
        cases hdx with
        | bool a =>
          refine ⟨by simp, by simp, ?_⟩
          simp only [vbin] at h
          split at h
          · rename_i hu; simp at h; subst h; exact ⟨_, run_eql (equalIn_bool hu a b) rfl, fun _ => .bool _⟩
          · rename_i hu; simp at h; subst h; exact ⟨_, run_neq (equalIn_bool hu a b) rfl, fun _ => .bool _⟩
          · simp at h
        | _ => simp [vbin] at h
      | _ => cases hdx <;> simp [vbin] at h
    | _ => simp [vbin] at h
  | _ => cases hx <;> simp [vbin] at h

theorem vsnil_val {op : BinOp} {t : TypeId} {x : PV} {a : Value} {r : D} (hx : VRel β σ w Z x a) (h : vsnil P σ op t x = some r) :
    (¬ ∃ c, a = .agg c) ∧ a ≠ .nilIface ∧ ∃ v, (binOp op t a (.slice none 0 0)).run P w = .ok v w ∧ ∀ Z, DRel w Z r v := by
  unfold vsnil at h
  split at h
  · rename_i b e hb hu
    obtain ⟨ad, n, c, rfl, rfl⟩ := snil_rel hb hx
    refine ⟨by simp, by simp, ?_⟩
    split at h
    · cases h; exact ⟨_, run_eql (equalIn_slice hu ad n c) rfl, fun _ => .bool _⟩
    · cases h; exact ⟨_, run_neq (equalIn_slice hu ad n c) rfl, fun _ => .bool _⟩
    · simp at h
  · simp at h

theorem vnil_val {op : BinOp} {t : TypeId} {x : PV} {a : Value} {r : D} {ptr : Bool} (hx : VRel β σ w Z x a) (h : vnil P σ op t x ptr = some r) :
    (¬ ∃ c, a = .agg c) ∧ (ptr = true → a ≠ .nilIface) ∧ ∃ v, (binOp op t a (if ptr then .pointer none else .nilIface)).run P w = .ok v w ∧ ∀ Z, DRel w Z r v := by
  unfold vnil at h
  split at h
  · simp at h
  · rename_i b hb
    split at h
    · rename_i hc
      have hr := nilness_rel hb hx
      obtain ⟨h1, h2⟩ := hc
      unfold nilTy at h1
      rw [h2] at hr
      cases ptr with
      | true =>
        simp only [if_true] at hr ⊢
        obtain ⟨p, rfl, hp⟩ := hr
        refine ⟨by simp, by simp, ?_⟩
        split at h1
        · rename_i e hu
          cases op <;> simp at h <;> subst h
          · exact ⟨_, run_eql (equalIn_ptr hu p) rfl, fun _ => hp ▸ .bool _⟩
          · exact ⟨_, run_neq (equalIn_ptr hu p) rfl, fun _ => hp ▸ .bool _⟩
        · simp at h1
        · simp at h1
      | false =>
        simp only [Bool.false_eq_true, if_false] at hr ⊢
        split at h1
        · simp at h1
        · rename_i ms hu
          rcases hr with ⟨rfl, rfl⟩ | ⟨⟨t', u, rfl⟩, rfl⟩
          · refine ⟨by simp, by simp, ?_⟩
            cases op <;> simp at h <;> subst h
            · exact ⟨_, run_eql (equalIn_nil hu) rfl, fun _ => .bool _⟩
            · exact ⟨_, run_neq (equalIn_nil hu) rfl, fun _ => .bool _⟩
          · refine ⟨by simp, by simp, ?_⟩
            cases op <;> simp at h <;> subst h
            · exact ⟨_, run_eql (equalIn_iface hu) rfl, fun _ => .bool _⟩
            · exact ⟨_, run_neq (equalIn_iface hu) rfl, fun _ => .bool _⟩
        · simp at h1
    · simp at h
end
end Go.VL
namespace Go.VL
open Go

def szP (P : Program) (t : TypeId) : Option Nat := (P.info? t).map (·.size)
def zeroP (P : Program) (t : TypeId) : Option Value := (P.info? t).bind (·.zero)
/-- A struct's or an array's number of cells; 'none' of a scalar. -/
def kndP (P : Program) (t : TypeId) : Option (Option Nat) :=
  match P.underlying t with
  | some (.struct _) => (szP P t).map some
  | some (.array _ _) => (szP P t).map some
  | some _ => some none
  | none => none
def elemP (P : Program) (t : TypeId) : Option TypeId :=
  match P.underlying t with
  | some (.slice e) => some e
  | _ => none
/-- A slice type's elements: cells, bytes, the zero value's cells. -/
structure EI where
  size : Nat
  bytes : Nat
  zero : List Value
def eiP (P : Program) (t : TypeId) : Option EI :=
  match elemP P t with
  | some e => match P.info? e with
    | some i => match i.zero with
      | some z => if z.cells.size = i.size ∧ 1 ≤ i.bytes ∧ 1 ≤ i.size then some ⟨i.size, i.bytes, z.cells.toList⟩ else none
      | none => none
    | none => none
  | none => none
def fieldP (P : Program) (s : TypeId) (f : Nat) : Option Nat :=
  match P.underlying s with
  | some (.struct fs) => match fs[f]? with
    | some x => match P.info? x.type with
      | some i => if i.size = 0 then none else some x.offset
      | none => none
    | none => none
  | _ => none

def vcells (σ : St) (p : PV) (n : Nat) : Option (List PV) :=
  match p with
  | .ptr id g i off => match σ[id]? with
    | some (.box _ g' c) => if g' = g ∧ i = 0 ∧ off + n ≤ c.length then some ((c.drop off).take n) else none
    | some (.arr _ g' _ es) => if g' = g then match es[i]? with
      | some e => if off + n ≤ e.length then some (((e.drop off).take n).map .d) else none
      | none => none else none
    | _ => none
  | .d (.fp c) => if n ≤ c.length then some ((c.take n).map .d) else none
  | _ => none

def vload (P : Program) (σ : St) (t : TypeId) (p : PV) : Option PV :=
  match kndP P t with
  | some (some n) => (vcells σ p n).map .agg
  | some none => match vcells σ p 1 with
    | some [c] => some c
    | _ => none
  | none => none

section
variable {P : Program} {B : Base} {β : Bt} {σ : St} {w : World}

theorem add_base (b o n : Nat) : (⟨b, o, none⟩ : Addr).add n = ⟨b, o + n, none⟩ := by unfold Addr.add; split <;> simp_all

/-- A pointer's cells. -/
theorem vcells_rel (h : WR B β σ w) {p : PV} {v : Value} {n : Nat} {l : List PV} (hp : VRel β σ w (Zc B β σ w) p v) (hc : vcells σ p n = some l) :
    l.length = n ∧ ∃ a vs, v = .pointer (some a) ∧ a.spot = none ∧ VRelL β σ w (Zc B β σ w) l vs ∧ ∀ j u, vs[j]? = some u → w.cell? (a.add j) = some u := by
  cases hp with
  | ptr id g i off a o ho hg hpl =>
    simp only [vcells, ho] at hc
    cases o with
    | box lv g' c =>
      simp only at hc
      split at hc
      · rename_i hk
        obtain ⟨rfl, rfl, hk⟩ := hk
        cases hc
        obtain ⟨q, hq, hv⟩ := hpl rfl rfl
        cases hv
        obtain ⟨q', hq', hsz, htot, ⟨cur, t, fz, hcur, hct, hfz⟩, hcells⟩ := h.inv.holds id _ ho
        rw [hq] at hq'; cases hq'
        refine ⟨by simp; omega, _, ((List.range n).map fun j => (cellAt w q.blk (q.base + off + j)).getD undef), rfl, rfl, ⟨by simp; omega, ?_⟩, ?_⟩
        · intro j x u hj hu
          have hjn : j < n := by have := get_lt hj; simp at this; omega
          rw [List.getElem?_take, if_pos hjn, List.getElem?_drop] at hj
          obtain ⟨u', h1, h2⟩ := hcells (off + j) x hj
          rw [List.getElem?_map, List.getElem?_range hjn] at hu
          simp only [Option.map_some, Option.some.injEq] at hu
          rw [Nat.add_assoc, h1] at hu; simp at hu; subst hu; exact h2
        · intro j u hu
          have hjn : j < n := by have := get_lt hu; simpa using this
          rw [List.getElem?_map, List.getElem?_range hjn] at hu
          simp only [Option.map_some, Option.some.injEq] at hu
          have hjc : off + j < c.length := by omega
          obtain ⟨u', h1, h2⟩ := hcells (off + j) _ (List.getElem?_eq_getElem hjc)
          rw [Nat.add_assoc, h1] at hu; simp at hu; subst hu
          rw [add_base]
          have : q.base + 0 * q.sz + off + j = q.base + (off + j) := by omega
          rw [this]; exact h1
      · simp at hc
    | arr lv g' sz es =>
      simp only at hc
      split at hc
      · rename_i hg'
        subst hg'
        split at hc
        · rename_i e hi
          split at hc
          · rename_i hk
            cases hc
            obtain ⟨q, hq, hv⟩ := hpl rfl rfl
            cases hv
            obtain ⟨hlen, hh⟩ := h.inv.holds id _ ho
            rw [hq] at hh
            obtain ⟨hqs, htot, ⟨cur, t, fz, hcur, hct, hfz⟩, hcells⟩ := hh
            refine ⟨by simp; omega, _, ((List.range n).map fun j => (cellAt w q.blk (q.base + i * q.sz + off + j)).getD undef), rfl, rfl, ⟨by simp; omega, ?_⟩, ?_⟩
            · intro j x u hj hu
              have hjn : j < n := by have := get_lt hj; simp at this; omega
              rw [List.getElem?_map, List.getElem?_take, if_pos hjn, List.getElem?_drop] at hj
              rw [List.getElem?_map, List.getElem?_range hjn] at hu
              simp only [Option.map_some, Option.some.injEq] at hu
              cases hej : e[off + j]? with
              | none => rw [hej] at hj; simp at hj
              | some y =>
                rw [hej] at hj; simp at hj; subst hj
                obtain ⟨u', h1, _, h2⟩ := hcells i (off + j) e y hi hej
                rw [hqs, Nat.add_assoc, h1] at hu; simp at hu; subst hu; exact .d _ _ h2
            · intro j u hu
              have hjn : j < n := by have := get_lt hu; simpa using this
              rw [List.getElem?_map, List.getElem?_range hjn] at hu
              simp only [Option.map_some, Option.some.injEq] at hu
              have hjc : off + j < e.length := by omega
              obtain ⟨u', h1, h2⟩ := hcells i (off + j) e _ hi (List.getElem?_eq_getElem hjc)
              rw [hqs, Nat.add_assoc, h1] at hu; simp at hu; subst hu
              rw [add_base, hqs, Nat.add_assoc]; exact h1
          · simp at hc
        · simp at hc
      · simp at hc
    | dead => simp at hc
  | d x v hd =>
    cases hd with
    | fp c b off f hz hcell hr =>
      simp only [vcells] at hc
      split at hc
      · rename_i hk
        cases hc
        refine ⟨by simp; omega, _, (List.range n).map f, rfl, rfl, ⟨by simp; omega, ?_⟩, ?_⟩
        · intro j x u hj hu
          have hjn : j < n := by have := get_lt hj; simp at this; omega
          rw [List.getElem?_map, List.getElem?_take, if_pos hjn] at hj
          rw [List.getElem?_map, List.getElem?_range hjn] at hu
          simp only [Option.map_some, Option.some.injEq] at hu
          cases hcj : c[j]? with
          | none => rw [hcj] at hj; simp at hj
          | some y => rw [hcj] at hj; simp at hj; subst hj; subst hu; exact .d _ _ (hr j y hcj)
        · intro j u hu
          have hjn : j < n := by have := get_lt hu; simpa using this
          rw [List.getElem?_map, List.getElem?_range hjn] at hu
          simp only [Option.map_some, Option.some.injEq] at hu
          subst hu; rw [add_base]; exact hcell j (by omega)
      · simp at hc
    | _ => simp [vcells] at hc
  | _ => simp [vcells] at hc

theorem kndP_agg {t : TypeId} {n : Nat} (h : kndP P t = some (some n)) : (isAgg t).run P w = .ok true w ∧ (sizeOf t).run P w = .ok n w := by
  unfold kndP at h
  split at h <;> simp [szP] at h
  all_goals
    rename_i hu
    obtain ⟨i, hi, hn⟩ := h
    simp [isAgg, run_underlying hu, sizeOf, typeInfo, hi, hn]
theorem kndP_sc {t : TypeId} (h : kndP P t = some none) : (isAgg t).run P w = .ok false w := by
  unfold kndP at h
  split at h <;> simp [szP] at h
  rename_i d hn1 hn2 hu
  simp only [isAgg, Sem.run_bind, run_underlying hu, Result.andThen_ok]
  rfl

theorem vload_run (h : WR B β σ w) {t : TypeId} {p x : PV} {v : Value} (hp : VRel β σ w (Zc B β σ w) p v) (hx : vload P σ t p = some x) :
    ∃ u, (Instr.loadAt t v).run P w = .ok u w ∧ VRel β σ w (Zc B β σ w) x u := by
  unfold vload at hx
  split at hx
  · rename_i n hk
    cases hc : vcells σ p n with
    | none => simp [hc] at hx
    | some l =>
      simp [hc] at hx; subst hx
      obtain ⟨hl, a, vs, rfl, ha, hr, hcell⟩ := vcells_rel h hp hc
      obtain ⟨h1, h2⟩ := kndP_agg (w := w) hk
      have hload := run_loadCells_list (P := P) w a vs hcell
      have hvn : vs.length = n := by rw [← hr.1, hl]
      rw [hvn] at hload
      refine ⟨.agg vs.toArray, ?_, .agg _ _ hr.1 hr.2⟩
      simp [Instr.loadAt, Instr.sureAddr, loadVar, h1, h2, hload]
  · rename_i hk
    split at hx
    · rename_i c hc
      cases hx
      obtain ⟨hl, a, vs, rfl, ha, hr, hcell⟩ := vcells_rel h hp hc
      have h1 := kndP_sc (w := w) hk
      have hvl : 0 < vs.length := by rw [← hr.1]; simp
      have h0 := hcell 0 _ (List.getElem?_eq_getElem hvl)
      refine ⟨vs[0], ?_, hr.2 0 x _ rfl (List.getElem?_eq_getElem hvl)⟩
      have ha0 : a.add 0 = a := by simp [Addr.add]
      rw [ha0] at h0
      simp [Instr.loadAt, Instr.sureAddr, loadVar, h1, h0]
    · simp at hx
  · simp at hx
end
end Go.VL
