/- V-logic, part I: addresses of fields and elements, slices, strings. -/
import Derived.Laws.MakeOwn
import Derived.Laws.Cover2
import Derived.Laws.Build
import Derived.Test.YtbgjkpokmlkgiaaVa
namespace Go.VL
open Go

def vfieldAddr (P : Program) (s : TypeId) (p : PV) (f : Nat) : Option PV :=
  match fieldP P s f with
  | some k => match p with
    | .ptr id g i off => some (.ptr id g i (off + k))
    | .d (.fp c) => some (.d (.fp (c.drop k)))
    | _ => none
  | none => none

def vindexAddr (P : Program) (σ : St) (t : TypeId) (x i : PV) : Option PV :=
  match i with
  | .d (.int _ n) => match P.underlying t with
    | some (.slice e) => match szP P e, x with
      | some sz, .d (.fz l) => if 0 ≤ n ∧ n < (l.length : Int) then match l[n.toNat]? with
        | some el => if el.length = sz then some (.d (.fp el)) else none
        | none => none else none
      | some sz, .sl id g s k => match σ[id]? with
        | some (.arr _ g' sz' _) => if g' = g ∧ sz' = sz ∧ 0 ≤ n ∧ n < (k : Int) then some (.ptr id g (s + n.toNat) 0) else none
        | _ => none
      | _, _ => none
    | some (.array len e) => match szP P e, x with
      | some sz, .ptr id g k off => if 0 ≤ n ∧ n < (len : Int) then match σ[id]? with
        | some o => if o.gen = g ∧ o.alive = true then some (.ptr id g k (off + n.toNat * sz)) else none
        | none => none else none
      | some sz, .d (.fp c) => if 0 ≤ n ∧ n < (len : Int) then some (.d (.fp (c.drop (n.toNat * sz)))) else none
      | _, _ => none
    | _ => none
  | _ => none

def vindex (P : Program) (t : TypeId) (x i : PV) : Option PV :=
  match i, x, P.underlying t with
  | .d (.int _ n), .d (.str l), some .string => if 0 ≤ n then match l[n.toNat]? with
    | some b => some (.d (.int .u8 b.toNat))
    | none => none else none
  | _, _, _ => none

def vbound (d : Nat) : Option PV → Option Int
  | none => some d
  | some (.d (.int _ n)) => some n
  | _ => none

def vslice (P : Program) (t : TypeId) (x : PV) (lo hi : Option PV) : Option PV :=
  match x, P.underlying t with
  | .d (.str s), some .string => match vbound 0 lo, vbound s.length hi with
    | some l, some h => if 0 ≤ l ∧ l ≤ h ∧ h ≤ (s.length : Int) then some (.d (.str ((s.take h.toNat).drop l.toNat))) else none
    | _, _ => none
  | .d (.fz s), some (.slice e) => match szP P e, vbound 0 lo, vbound s.length hi with
    | some sz, some l, some h => if 0 ≤ l ∧ l ≤ h ∧ h ≤ (s.length : Int) ∧ s.all (fun e => e.length == sz) = true then some (.d (.fz ((s.take h.toNat).drop l.toNat))) else none
    | _, _, _ => none
  | .nil, some (.slice e) => match szP P e, vbound 0 lo, vbound 0 hi with
    | some _, some l, some h => if l = 0 ∧ h = 0 then some .nil else none
    | _, _, _ => none
  | _, _ => none

section
variable {P : Program} {B : Base} {β : Bt} {σ : St} {w : World} {Z : Nat → Prop}

theorem fieldP_run {s : TypeId} {f k : Nat} (h : fieldP P s f = some k) (b o : Nat) :
    (Instr.fieldAt s (.pointer (some ⟨b, o, none⟩)) f).run P w = .ok (.pointer (some ⟨b, o + k, none⟩)) w := by
  unfold fieldP at h
  split at h
  · rename_i fs hu
    split at h
    · rename_i x hx
      split at h
      · rename_i i hi
        split at h
        · simp at h
        · rename_i h0
          cases h
          simp [Instr.fieldAt, run_underlying hu, hx, Instr.sureAddr, fieldPlace, sizeOf, typeInfo, hi, h0, add_base]
      · simp at h
    · simp at h
  · simp at h

theorem DRel.fp_drop {c : List D} {b off : Nat} {f : Nat → Value} {Z : Nat → Prop} (hz : Z b) (hc : ∀ j, j < c.length → cellAt w b (off + j) = some (f j))
    (hr : ∀ (j : Nat) (x : D), c[j]? = some x → DRel w Z x (f j)) (k : Nat) : DRel w Z (.fp (c.drop k)) (.pointer (some ⟨b, off + k, none⟩)) := by
  refine .fp _ _ _ (fun j => f (k + j)) hz (fun j hj => ?_) (fun j x hj => ?_)
  · have : k + j < c.length := by simp at hj; omega
    rw [Nat.add_assoc]; exact hc (k + j) this
  · rw [List.getElem?_drop] at hj; exact hr (k + j) x hj

/-- A pointer that is alive. -/
theorem vfieldAddr_run {s : TypeId} {f : Nat} {p x : PV} {v : Value} (hp : VRel β σ w Z p v) (hx : vfieldAddr P s p f = some x) (hal : ∀ id g i off, p = .ptr id g i off → nilness σ p = some false) :
    ∃ u, (Instr.fieldAt s v f).run P w = .ok u w ∧ VRel β σ w Z x u := by
  unfold vfieldAddr at hx
  split at hx
  · rename_i k hk
    cases hp with
    | ptr id g i off a o ho hg hpl =>
      simp at hx; subst hx
      have hn := hal id g i off rfl
      simp only [nilness, ho] at hn
      split at hn
      · rename_i hc
        obtain ⟨q, hq, hv⟩ := hpl hc.1 hc.2
        cases hv
        refine ⟨_, fieldP_run hk _ _, .ptr _ _ _ _ _ o ho hg (fun _ _ => ⟨q, hq, by rw [Nat.add_assoc]⟩)⟩
      · simp at hn
    | d x v hd =>
      cases hd with
      | fp c b off f hz hc hr => simp at hx; subst hx; exact ⟨_, fieldP_run hk _ _, .d _ _ (DRel.fp_drop hz hc hr k)⟩
      | _ => simp at hx
    | _ => simp at hx
  · simp at hx

theorem run_indexAt_sl {t e : TypeId} {sz : Nat} (hu : P.underlying t = some (.slice e)) (hs : szP P e = some sz) (k : IntKind) (n : Int) (b o len cap : Nat) (h0 : 0 ≤ n) (h1 : n < (len : Int)) :
    (Instr.indexAt t (.slice (some ⟨b, o, none⟩) len cap) (.int k n)).run P w = .ok (.pointer (some ⟨b, o + n.toNat * sz, none⟩)) w := by
  cases hi : P.info? e with
  | none => simp [szP, hi] at hs
  | some i =>
    have hsz : i.size = sz := by simpa [szP, hi] using hs
    simp [Instr.indexAt, asIntOf, run_underlying hu, h0, h1, sizeOf, typeInfo, hi, hsz, add_base]

theorem run_indexAt_ar {t e : TypeId} {sz len : Nat} (hu : P.underlying t = some (.array len e)) (hs : szP P e = some sz) (k : IntKind) (n : Int) (b o : Nat) (h0 : 0 ≤ n) (h1 : n < (len : Int)) :
    (Instr.indexAt t (.pointer (some ⟨b, o, none⟩)) (.int k n)).run P w = .ok (.pointer (some ⟨b, o + n.toNat * sz, none⟩)) w := by
  cases hi : P.info? e with
  | none => simp [szP, hi] at hs
  | some i =>
    have hsz : i.size = sz := by simpa [szP, hi] using hs
    simp [Instr.indexAt, asIntOf, run_underlying hu, Instr.sureAddr, h0, h1, sizeOf, typeInfo, hi, hsz, add_base]

theorem vindexAddr_run (h : WR B β σ w) {t : TypeId} {x i y : PV} {v u : Value} (hx : VRel β σ w (Zc B β σ w) x v) (hi : VRel β σ w (Zc B β σ w) i u) (hy : vindexAddr P σ t x i = some y) :
    ∃ r, (Instr.indexAt t v u).run P w = .ok r w ∧ VRel β σ w (Zc B β σ w) y r := by
  unfold vindexAddr at hy
  split at hy
  · rename_i k n
    cases hi with
    | d _ _ hd =>
      cases hd with
      | int k n =>
        split at hy
        · rename_i e hu
          split at hy
          · rename_i sz l hs
            split at hy
            · rename_i hn
              split at hy
              · rename_i el hel
                split at hy
                · rename_i hlen
                  cases hy
                  cases hx with
                  | d _ _ hd =>
                    cases hd with
                    | fz0 => simp at hel
                    | fz l b off cap sz' f hcap hsz hz hc hr =>
                      have hsz' : sz' = sz := by rw [← hsz el (List.mem_of_getElem? hel)]; exact hlen
                      subst hsz'
                      refine ⟨_, run_indexAt_sl hu hs k n _ _ _ _ hn.1 hn.2, .d _ _ (.fp _ _ _ (f n.toNat) hz (fun j hj => ?_) (fun j x hj => hr _ _ _ _ hel hj))⟩
                      exact (hc _ _ (get_lt hel) (by omega)).1
                · simp at hy
              · simp at hy
            · simp at hy
          · rename_i sz id g s k' hs
            split at hy
            · rename_i lv g' sz' es ho
              split at hy
              · rename_i hc
                obtain ⟨rfl, rfl, hn0, hn1⟩ := hc
                cases hy
                cases hx with
                | sl _ _ _ _ a m c o ho' hg hp =>
                  rw [ho] at ho'; cases ho'
                  have hpl := hp rfl rfl
                  obtain ⟨_, hh⟩ := h.inv.holds id _ ho
                  cases hq : β id with
                  | none => rw [hq] at hpl; obtain ⟨_, h2, _⟩ := hpl; subst h2; omega
                  | some q =>
                    rw [hq] at hpl hh
                    obtain ⟨cap, he, hcap, hfit⟩ := hpl
                    cases he
                    have hqs := hh.1
                    refine ⟨_, run_indexAt_sl hu hs k n _ _ _ _ hn0 hn1, .ptr _ _ _ _ _ _ ho (Nat.le_refl _) (fun _ _ => ⟨q, hq, ?_⟩)⟩
                    rw [hqs, Nat.add_mul, Nat.add_zero, Nat.add_assoc]
              · simp at hy
            · simp at hy
          · simp at hy
        · rename_i len e hu
          split at hy
          · rename_i sz id g k' off hs
            split at hy
            · rename_i hn
              split at hy
              · rename_i o ho
                split at hy
                · rename_i hal
                  cases hy
                  cases hx with
                  | ptr _ _ _ _ a o' ho' hg hp =>
                    rw [ho] at ho'; cases ho'
                    obtain ⟨q, hq, he⟩ := hp hal.1 hal.2
                    cases he
                    exact ⟨_, run_indexAt_ar hu hs k n _ _ hn.1 hn.2, .ptr _ _ _ _ _ _ ho hg (fun _ _ => ⟨q, hq, by rw [Nat.add_assoc]⟩)⟩
                · simp at hy
              · simp at hy
            · simp at hy
          · rename_i sz c hs
            split at hy
            · rename_i hn
              cases hy
              cases hx with
              | d _ _ hd =>
                cases hd with
                | fp c b off f hz hc hr => exact ⟨_, run_indexAt_ar hu hs k n _ _ hn.1 hn.2, .d _ _ (DRel.fp_drop hz hc hr _)⟩
            · simp at hy
          · simp at hy
        · simp at hy
  · simp at hy

theorem vindex_run {t : TypeId} {x i y : PV} {v u : Value} (hx : VRel β σ w Z x v) (hi : VRel β σ w Z i u) (hy : vindex P t x i = some y) :
    ∃ r, (Instr.index t v u).run P w = .ok r w ∧ VRel β σ w Z y r := by
  unfold vindex at hy
  split at hy
  · rename_i k n l hu
    split at hy
    · rename_i h0
      split at hy
      · rename_i b hb
        cases hy
        cases hi with
        | d _ _ hd =>
          cases hd with
          | int k n =>
            cases hx with
            | d _ _ hd =>
              cases hd with
              | str l s hs =>
                subst hs
                have hb' : s[n.toNat]? = some b := by
                  have hl := get_lt hb
                  have hl2 : n.toNat < s.size := by rw [size_len]; exact hl
                  rw [getElem?_pos s n.toNat hl2]
                  rw [List.getElem?_eq_getElem hl] at hb
                  rw [← hb]; rfl
                refine ⟨.int .u8 b.toNat, ?_, .d _ _ (.int _ _)⟩
                simp [Instr.index, asIntOf, run_underlying hu, h0, hb']
      · simp at hy
    · simp at hy
  · simp at hy

/-- What a bound is told as. -/
theorem vbound_run {d : Nat} {o : Option PV} {ov : Option Value} {n : Int} (h : vbound d o = some n) (hr : ∀ x v, o = some x → ov = some v → VRel β σ w Z x v) (hs : o.isSome = ov.isSome) :
    (o = none ∧ ov = none ∧ n = d) ∨ ∃ k, ov = some (.int k n) := by
  unfold vbound at h
  split at h
  · cases ov with
    | none => simp at h; exact .inl ⟨rfl, rfl, h.symm⟩
    | some v => simp at hs
  · rename_i k m
    cases ov with
    | none => simp at hs
    | some v =>
      cases h
      cases hr _ _ rfl rfl with
      | d _ _ hd => cases hd; exact .inr ⟨_, rfl⟩
  · simp at h

theorem run_bounds {isSlice : Bool} {len cap : Nat} {lo hi : Option Value} {l h : Int} (hlc : len ≤ cap) (h0 : 0 ≤ l) (h1 : l ≤ h) (h2 : h ≤ (len : Int))
    (hlo : (lo = none ∧ l = 0) ∨ ∃ k, lo = some (.int k l)) (hhi : (hi = none ∧ h = len) ∨ ∃ k, hi = some (.int k h)) :
    (Instr.sliceBounds isSlice len cap lo hi none).run P w = .ok (l.toNat, h.toNat, cap) w := by
  have b1 : ∀ (k : IntKind) (x : Int) (y : Nat) (c : BoundsCode), 0 ≤ x → x ≤ (y : Int) → (Instr.sliceBound (.int k x) y c).run P w = .ok x.toNat w := by
    intro k x y c hx hy; simp [Instr.sliceBound, asIntOf, hx, hy]
  have hh : h.toNat = h := by omega
  rcases hlo with ⟨rfl, rfl⟩ | ⟨k, rfl⟩ <;> rcases hhi with ⟨rfl, rfl⟩ | ⟨k', rfl⟩
  · simp [Instr.sliceBounds]
  · simp [Instr.sliceBounds, b1 k' h cap _ (by omega) (by omega)]
  · simp [Instr.sliceBounds, b1 k l len _ h0 h1]
  · simp [Instr.sliceBounds, b1 k' h cap _ (by omega) (by omega), b1 k l h.toNat _ h0 (by omega)]

/-- A part of frozen elements. -/
theorem DRel.fz_part {l : List (List D)} {b off cap sz : Nat} {f : Nat → Nat → Value} (hcap : l.length ≤ cap) (hsz : ∀ e ∈ l, e.length = sz) (hz : Z b)
    (hc : ∀ i j, i < l.length → j < sz → cellAt w b (off + i * sz + j) = some (f i j) ∧ (f i j).oneCell' = true)
    (hr : ∀ (i j : Nat) (e : List D) (x : D), l[i]? = some e → e[j]? = some x → DRel w Z x (f i j)) (lo hi : Nat) (h1 : lo ≤ hi) (h2 : hi ≤ l.length) :
    DRel w Z (.fz ((l.take hi).drop lo)) (.slice (if cap = lo then some ⟨b, off, none⟩ else some ⟨b, off + lo * sz, none⟩) (hi - lo) (cap - lo)) := by
  by_cases he : hi = lo
  · have : (l.take hi).drop lo = [] := by apply List.drop_eq_nil_of_le; simp; omega
    rw [this, he, Nat.sub_self]; exact .fz0 _ _ (fun h => by split at h <;> simp at h)
  · rw [if_neg (by omega)]
    have hlen : ((l.take hi).drop lo).length = hi - lo := by simp; omega
    have key : DRel w Z (.fz ((l.take hi).drop lo)) (.slice (some ⟨b, off + lo * sz, none⟩) ((l.take hi).drop lo).length (cap - lo)) := by
      refine .fz _ _ _ _ sz (fun i j => f (lo + i) j) (by omega) (fun e he => hsz e (List.mem_of_mem_take (List.mem_of_mem_drop he))) hz (fun i j hi' hj => ?_) (fun i j e x hi' hj => ?_)
      · have := hc (lo + i) j (by omega) hj
        rw [Nat.add_mul] at this
        rw [Nat.add_assoc off]; exact this
      · rw [List.getElem?_drop, List.getElem?_take] at hi'
        split at hi'
        · exact hr (lo + i) j e x hi' hj
        · simp at hi'
    rw [hlen] at key; exact key

theorem vslice_run {t : TypeId} {x y : PV} {lo hi : Option PV} {v : Value} {lov hiv : Option Value} (hx : VRel β σ w Z x v)
    (hlo : ∀ x v, lo = some x → lov = some v → VRel β σ w Z x v) (hlo' : lo.isSome = lov.isSome) (hhi : ∀ x v, hi = some x → hiv = some v → VRel β σ w Z x v) (hhi' : hi.isSome = hiv.isSome)
    (hy : vslice P t x lo hi = some y) :
    ∃ r, (Instr.sliceAt t v lov hiv none).run P w = .ok r w ∧ VRel β σ w Z y r := by
  have hb : ∀ {d : Nat} {o : Option PV} {ov : Option Value} {n : Int}, vbound d o = some n → (∀ x v, o = some x → ov = some v → VRel β σ w Z x v) → o.isSome = ov.isSome → (ov = none ∧ n = d) ∨ ∃ k, ov = some (.int k n) := by
    intro d o ov n h1 h2 h3
    rcases vbound_run h1 h2 h3 with ⟨_, h4, h5⟩ | h4
    · exact .inl ⟨h4, h5⟩
    · exact .inr h4
  unfold vslice at hy
  split at hy
  · rename_i s hu
    split at hy
    · rename_i l h hl hh
      split at hy
      · rename_i hc
        cases hy
        cases hx with
        | d _ _ hd =>
          cases hd with
          | str _ bs hs =>
            subst hs
            have hsz : bs.size = bs.data.toList.length := size_len bs
            have hbd := run_bounds (P := P) (w := w) (isSlice := false) (len := bs.size) (cap := bs.size) (Nat.le_refl _) hc.1 hc.2.1 (by rw [hsz]; exact hc.2.2) (hb hl hlo hlo') (by rw [hsz]; exact hb hh hhi hhi')
            refine ⟨.string (bs.extract l.toNat h.toNat), ?_, .d _ _ (.str _ _ (by
              have e1 : l.toNat + (h.toNat - l.toNat) = h.toNat := by omega
              simp [List.take_drop, e1]))⟩
            simp [Instr.sliceAt, run_underlying hu, Instr.slice, hbd]
      · simp at hy
    · simp at hy
  · rename_i s e hu
    split at hy
    · rename_i sz l h hs hl hh
      split at hy
      · rename_i hc
        obtain ⟨h0, h1, h2, hall⟩ := hc
        cases hy
        cases hi' : P.info? e with
        | none => simp [szP, hi'] at hs
        | some i =>
          have hisz : i.size = sz := by simpa [szP, hi'] using hs
          cases hx with
          | d _ _ hd =>
            have fin : ∀ (a : Option Addr) (cap : Nat), s.length ≤ cap → DRel w Z (.fz ((s.take h.toNat).drop l.toNat)) (.slice (if cap = l.toNat then a else a.map (·.add (l.toNat * sz))) (h.toNat - l.toNat) (cap - l.toNat)) →
                ∃ r, (Instr.sliceAt t (.slice a s.length cap) lov hiv none).run P w = .ok r w ∧ VRel β σ w Z (.d (.fz ((s.take h.toNat).drop l.toNat))) r := by
              intro a cap hcap hd
              have hbd := run_bounds (P := P) (w := w) (isSlice := true) hcap h0 h1 h2 (hb hl hlo hlo') (hb hh hhi hhi')
              refine ⟨_, ?_, .d _ _ hd⟩
              simp [Instr.sliceAt, run_underlying hu, Instr.slice, hbd, sizeOf, typeInfo, hi', hisz]
            cases hd with
            | fz0 a cap hz0 =>
              refine fin a cap (Nat.zero_le _) ?_
              simp only [List.take_nil, List.drop_nil]
              have : h.toNat - l.toNat = 0 := by simp at h2; omega
              rw [this]; exact .fz0 _ _ (fun h => by
                split at h
                · have := hz0 h; omega
                · have : a = none := by simpa using h
                  have := hz0 this; omega)
            | fz _ b off cap sz' f hcap hsz hz hc hr =>
              refine fin _ cap hcap ?_
              by_cases hs0 : s = []
              · subst hs0
                simp only [List.take_nil, List.drop_nil]
                have : h.toNat - l.toNat = 0 := by simp at h2; omega
                rw [this]; exact .fz0 _ _ (fun h => by split at h <;> simp at h)
              · have hsz2 : sz' = sz := by
                  cases s with
                  | nil => exact absurd rfl hs0
                  | cons e0 s0 =>
                    have h3 := hsz e0 (by simp)
                    have h4 : (e0.length == sz) = true := (List.all_eq_true.1 hall) e0 (by simp)
                    rw [beq_iff_eq] at h4; omega
                subst hsz2
                have := DRel.fz_part hcap hsz hz hc hr l.toNat h.toNat (by omega) (by omega)
                simpa only [Option.map_some, add_base] using this
      · simp at hy
    · simp at hy
  · rename_i e hu
    split at hy
    · rename_i sz l h hs hl hh
      split at hy
      · rename_i hc
        obtain ⟨rfl, rfl⟩ := hc
        cases hy
        cases hi' : P.info? e with
        | none => simp [szP, hi'] at hs
        | some i =>
          cases hx with
          | nil =>
            have hbd := run_bounds (P := P) (w := w) (isSlice := true) (len := 0) (cap := 0) (Nat.le_refl _) (Int.le_refl 0) (Int.le_refl 0) (by simp) (hb hl hlo hlo') (hb hh hhi hhi')
            refine ⟨.slice none 0 0, ?_, .nil⟩
            simp [Instr.sliceAt, run_underlying hu, Instr.slice, hbd, sizeOf, typeInfo, hi']
      · simp at hy
    · simp at hy
  · simp at hy
end
end Go.VL
namespace Go.VL
open Go

/-- Values that become data for good. -/
def closeL (σ : St) (c : List PV) : Option (List D) := c.mapM (toD σ 5)
def idsL (σ : St) (c : List PV) : List Nat := c.flatMap (ids σ 5)
def frzL (σ : St) (c : List PV) : St := (idsL σ c).foldl frz1 σ

section
variable {P : Program} {B : Base} {β : Bt} {σ : St} {w : World} {Z : Nat → Prop}

theorem closeL_sound (h : WR B β σ w) {c : List PV} {vs : List Value} {ds : List D} (hc : closeL σ c = some ds) (hv : VRelL β σ w (Zc B β σ w) c vs)
    (hnew : ∀ id ∈ idsL σ c, B.σ.length ≤ id) : Mv B β σ w β (frzL σ c) w ∧ ds.length = vs.length ∧ ∀ (j : Nat) (x : D) (v : Value), ds[j]? = some x → vs[j]? = some v → DRel w (Zc B β (frzL σ c) w) x v := by
  obtain ⟨hm, hl⟩ := frzs_sound (idsL σ c) σ h
  obtain ⟨h1, h2⟩ := mapM_some hc
  refine ⟨hm, by rw [← h1]; exact hv.1, fun j x v hx hu => ?_⟩
  have hj : j < c.length := by rw [h1]; exact get_lt hx
  refine toD_gen h hm.zc 5 c[j] v x (h2 j _ x (List.getElem?_eq_getElem hj) hx) (hv.2 j _ v (List.getElem?_eq_getElem hj) hu) (fun id hid o q ho ha hq => ?_)
  have hid : id ∈ idsL σ c := List.mem_flatMap.2 ⟨c[j], List.getElem_mem hj, hid⟩
  have hlt := Inv.lt h ho ha hq
  obtain ⟨o', ho', ha', hl', _⟩ := hl id o ho
  have hlf := hl' hid
  refine ⟨?_, fun hown => ?_, hlt⟩
  · rcases h.place id o q ho ha hq with h1 | ⟨o0, q0, h1, _⟩
    · exact .inr h1
    · have := get_lt h1; have := hnew id hid; omega
  · obtain ⟨j, oj, p, hj, hlj, hp, hb⟩ := hown
    have hj : ((idsL σ c).foldl VL.frz1 σ)[j]? = some oj := hj
    by_cases e : j = id
    · subst e
      rw [ho'] at hj
      cases hj; rw [hlf] at hlj; simp at hlj
    · exact hm.wr.inv.apart j oj id o' p q hj ho' hlj (by rw [ha', ha]) e hp hq hb
end

def vput (m : Nat) (σ : St) (p : PV) (c : List PV) : Option St :=
  match p with
  | .ptr id g i off => match σ[id]? with
    | some (.box true g' b) => if g' = g ∧ i = 0 ∧ off + c.length ≤ b.length ∧ c.all PV.one = true then some (σ.set id (.box true g (spl b off c))) else none
    | some (.arr true g' sz es) => match es[i]?, closeL σ c with
      | some e, some ds => if g' = g ∧ off + ds.length ≤ e.length ∧ c.all PV.one = true ∧ (idsL σ c).all (fun j => decide (m ≤ j ∧ j ≠ id)) = true then
          some ((frzL σ c).set id (.arr true g sz (es.set i (spl e off ds)))) else none
      | _, _ => none
    | _ => none
  | _ => none
def vstore (P : Program) (m : Nat) (σ : St) (t : TypeId) (p x : PV) : Option St :=
  match szP P t, x.cells with
  | some n, some c => if c.length = n then vput m σ p c else none
  | _, _ => none

section
variable {P : Program} {B : Base} {β : Bt} {σ : St} {w : World} {Z : Nat → Prop}

theorem frzL_other (c : List PV) {id : Nat} {o : Ob} (ho : σ[id]? = some o) (h : id ∉ idsL σ c) : (frzL σ c)[id]? = some o := by
  have key : ∀ (l : List Nat) (τ : St), τ[id]? = some o → id ∉ l → (l.foldl frz1 τ)[id]? = some o := by
    intro l
    induction l with
    | nil => intro τ h _; exact h
    | cons a l ih =>
      intro τ h hn
      obtain ⟨o', h1, _, _, _, h5⟩ := frz1_get τ a id o h
      rw [h5 (fun e => hn (by simp [e]))] at h1
      exact ih _ h1 (fun hm => hn (List.mem_cons_of_mem _ hm))
  exact key _ _ ho h

theorem all_one_rel {c : List PV} {vs : List Value} (hv : VRelL β σ w Z c vs) (h1 : c.all PV.one = true) : ∀ v ∈ vs, v.oneCell' = true := by
  intro v hm
  obtain ⟨j, hj, he⟩ := List.getElem_of_mem hm
  have hjc : j < c.length := by rw [hv.1]; exact hj
  exact one_rel (hv.2 j _ v (List.getElem?_eq_getElem hjc) (by rw [List.getElem?_eq_getElem hj, he])) (List.all_eq_true.1 h1 _ (List.getElem_mem hjc))

theorem vput_run (h : WR B β σ w) {p : PV} {v : Value} {c : List PV} {vs : List Value} {σ' : St} (hp : VRel β σ w (Zc B β σ w) p v) (hv : VRelL β σ w (Zc B β σ w) c vs)
    (hx : vput B.σ.length σ p c = some σ') : ∃ a w', v = .pointer (some a) ∧ (storeCells a vs).run P w = .ok () w' ∧ Mv B β σ w β σ' w' := by
  unfold vput at hx
  split at hx
  · rename_i id g i off
    cases hp with
    | ptr _ _ _ _ a o ho hg hpl =>
      split at hx
      · rename_i g' b hb
        rw [ho] at hb; cases hb
        split at hx
        · rename_i hc
          obtain ⟨rfl, rfl, hoff, hone⟩ := hc
          cases hx
          obtain ⟨q, hq, he⟩ := hpl rfl rfl
          cases he
          obtain ⟨q', cur, t, hq', hcur, hfit, hmv⟩ := Mv.setBox h ho hoff hv.1 hv.2
          rw [hq] at hq'; cases hq'
          have hst := run_storeCells_at P q.blk (q.base + 0 * q.sz + off) t vs 0 cur w hcur (by omega) (all_one_rel hv hone)
          refine ⟨_, _, rfl, hst, ?_⟩
          have e1 : q.base + 0 * q.sz + off + 0 = q.base + off := by omega
          rw [e1]; exact hmv
        · simp at hx
      · rename_i g' sz es hb
        rw [ho] at hb; cases hb
        split at hx
        · rename_i e ds hi hcl
          split at hx
          · rename_i hc
            obtain ⟨rfl, hoff, hone, hall⟩ := hc
            cases hx
            have hids : ∀ j ∈ idsL σ c, B.σ.length ≤ j ∧ j ≠ id := fun j hj => of_decide_eq_true (List.all_eq_true.1 hall j hj)
            obtain ⟨hm1, hl1, hr1⟩ := closeL_sound h hcl hv (fun j hj => (hids j hj).1)
            have ho1 := frzL_other (σ := σ) c ho (fun hm => (hids id hm).2 rfl)
            obtain ⟨q, hq, he⟩ := hpl rfl rfl
            cases he
            obtain ⟨q', cur, t, hq', hqs, hcur, hfit, hmv⟩ := Mv.setArr hm1.wr ho1 hi hoff hl1 (all_one_rel hv hone) hr1
            rw [hq] at hq'; cases hq'
            have hst := run_storeCells_at P q.blk (q.base + i * q.sz + off) t vs 0 cur w hcur (by rw [hqs]; omega) (all_one_rel hv hone)
            refine ⟨_, _, rfl, hst, ?_⟩
            have e1 : q.base + i * q.sz + off + 0 = q.base + i * sz + off := by rw [hqs]; omega
            rw [e1]; exact hm1.trans hmv
          · simp at hx
        · simp at hx
      · simp at hx
  · simp at hx

theorem vstore_run (h : WR B β σ w) {t : TypeId} {p x : PV} {v u : Value} {σ' : St} (hp : VRel β σ w (Zc B β σ w) p v) (hv : VRel β σ w (Zc B β σ w) x u)
    (hx : vstore P B.σ.length σ t p x = some σ') : ∃ w', (Instr.storeAt t v u).run P w = .ok () w' ∧ Mv B β σ w β σ' w' := by
  unfold vstore at hx
  split at hx
  · rename_i n c hn hc
    split at hx
    · rename_i hl
      obtain ⟨vs, hcs, hr⟩ := cells_rel hv hc
      obtain ⟨a, w', rfl, hst, hmv⟩ := vput_run (P := P) h hp hr hx
      refine ⟨w', ?_, hmv⟩
      cases hi : P.info? t with
      | none => simp [szP, hi] at hn
      | some i =>
        have hsz : i.size = n := by simpa [szP, hi] using hn
        have hvn : vs.length = i.size := by rw [← hr.1, hl, hsz]
        simp [Instr.storeAt, Instr.sureAddr, storeVar, sizeOf, typeInfo, hi, hcs, hvn, hst]
    · simp at hx
  · simp at hx

/-- A new variable. -/
theorem newVar_run (h : WR B β σ w) {x : PV} {u : Value} {c : List PV} (t : TypeId) (hv : VRel β σ w (Zc B β σ w) x u) (hc : x.cells = some c) :
    ∃ r w' β', (newVar t u).run P w = .ok r w' ∧ Mv B β σ w β' (σ ++ [.box true 0 c]) w' ∧ VRel β' (σ ++ [.box true 0 c]) w' (Zc B β' (σ ++ [.box true 0 c]) w') (.ptr σ.length 0 0 0) (.pointer (some r)) := by
  obtain ⟨vs, hcs, hr⟩ := cells_rel hv hc
  obtain ⟨β', hmv, hpl⟩ := Mv.newBox h c vs t hr.1 hr.2
  refine ⟨⟨w.heap.size, 0, none⟩, _, β', ?_, hmv, ?_⟩
  · simp [newVar, newRow, hcs]
  · refine .ptr _ _ _ _ _ (.box true 0 c) (by simp) (Nat.le_refl _) (fun _ _ => ⟨_, hpl, by simp⟩)

/-- The type's zero value. -/
def vzero (P : Program) (t : TypeId) : Option PV := (zeroP P t).map pvV
theorem vzero_run {t : TypeId} {x : PV} (h : vzero P t = some x) : ∃ z, (zeroValue t).run P w = .ok z w ∧ VRel β σ w Z x z := by
  unfold vzero zeroP at h
  cases hi : P.info? t with
  | none => simp [hi] at h
  | some i =>
    cases hz : i.zero with
    | none => simp [hi, hz] at h
    | some z =>
      simp [hi, hz] at h; subst h
      exact ⟨z, by simp [zeroValue, typeInfo, hi, hz], pvV_rel z⟩
end
end Go.VL
namespace Go.VL
open Go

theorem eiP_spec {P : Program} {t : TypeId} {ei : EI} (h : eiP P t = some ei) :
    ∃ e i z, P.underlying t = some (.slice e) ∧ P.info? e = some i ∧ i.zero = some z ∧ i.size = ei.size ∧ i.bytes = ei.bytes ∧ z.cells = ei.zero.toArray ∧ ei.zero.length = ei.size ∧ 1 ≤ ei.bytes ∧ 1 ≤ ei.size := by
  unfold eiP elemP at h
  split at h
  · rename_i e he
    split at he
    · rename_i e' hu
      cases he
      split at h
      · rename_i i hi
        split at h
        · rename_i z hz
          split at h
          · rename_i hc
            cases h
            exact ⟨e, i, z, hu, hi, hz, rfl, rfl, by simp, by simp [hc.1], hc.2.1, hc.2.2⟩
          · simp at h
        · simp at h
      · simp at h
    · simp at he
  · simp at h

/-- The elements of a second operand of append. -/
def vrows (P : Program) (σ : St) (u : TypeId) (sz : Nat) (x : PV) : Option (List (List D)) :=
  match x, P.underlying u with
  | .nil, some (.slice _) => some []
  | .nz, some (.slice _) => some []
  | .sl id g s k, some (.slice _) => match σ[id]? with
    | some (.arr _ g' sz' es) => if g' = g ∧ sz' = sz ∧ s + k ≤ es.length then some ((es.drop s).take k) else none
    | _ => none
  | .d (.fz l), some (.slice _) => if l.all (fun e => e.length == sz) = true then some l else none
  | .d (.str l), some .string => if sz = 1 then some (l.map fun b => [.int .u8 b.toNat]) else none
  | _, _ => none

def vappend (P : Program) (σ : St) (t u : TypeId) (s x : PV) : Option (PV × St) :=
  match eiP P t with
  | some ei => match vrows P σ u ei.size x with
    | some xs => match s with
      | .sl id g 0 n => match σ[id]? with
        | some (.arr true g' sz es) => if g' = g ∧ sz = ei.size ∧ n = es.length ∧ (es.length + xs.length) * ei.bytes ≤ 140737488355328 then
            some (.sl id (g + 1) 0 (es.length + xs.length), σ.set id (.arr true (g + 1) sz (es ++ xs))) else none
        | _ => none
      | .nil => if xs.length * ei.bytes ≤ 140737488355328 then some (.sl σ.length 1 0 xs.length, σ ++ [.arr true 1 ei.size xs]) else none
      | _ => none
    | none => none
  | none => none

section
variable {P : Program} {B : Base} {β : Bt} {σ : St} {w : World} {Z : Nat → Prop}

theorem firstCells_ptr (b o sz m c : Nat) (news : List Value) (hl : news.length = m * sz) (h : ∀ j v, news[j]? = some v → cellAt w b (o + j) = some v) :
    (Builtin.firstCells sz m (.slice (some ⟨b, o, none⟩) m c)).run P w = .ok news.toArray w :=
  run_firstCells_some (P := P) w sz m _ m c news hl (fun j v hv => by rw [add_base]; exact h j v hv)

/-- The cells of frozen elements. -/
theorem fz_rows {l : List (List D)} {b off sz : Nat} {f : Nat → Nat → Value} (hsz : ∀ e ∈ l, e.length = sz)
    (hc : ∀ i j, i < l.length → j < sz → cellAt w b (off + i * sz + j) = some (f i j) ∧ (f i j).oneCell' = true)
    (hr : ∀ (i j : Nat) (e : List D) (x : D), l[i]? = some e → e[j]? = some x → DRel w Z x (f i j)) (hp : 0 < sz) :
    ∃ vs, Rows2 w Z sz l vs ∧ ∀ (j : Nat) (v : Value), vs[j]? = some v → cellAt w b (off + j) = some v := by
  refine ⟨(List.range (l.length * sz)).map fun k => f (k / sz) (k % sz), ⟨by simp, fun i j e x v hi hj hv => ?_⟩, fun k v hv => ?_⟩
  · have hi' := get_lt hi
    have hj' : j < sz := by rw [← hsz e (List.mem_of_getElem? hi)]; exact get_lt hj
    have hlt := idx_lt hi' hj'
    rw [List.getElem?_map, List.getElem?_range hlt] at hv
    simp only [Option.map_some, Option.some.injEq] at hv
    have h1 : (i * sz + j) / sz = i := by rw [Nat.mul_comm, Nat.mul_add_div hp, Nat.div_eq_of_lt hj']; rfl
    have h2 : (i * sz + j) % sz = j := by rw [Nat.mul_comm, Nat.mul_add_mod]; exact Nat.mod_eq_of_lt hj'
    rw [h1, h2] at hv; subst hv; exact ⟨(hc i j hi' hj').2, hr i j e x hi hj⟩
  · have hk : k < l.length * sz := by have := get_lt hv; simpa using this
    rw [List.getElem?_map, List.getElem?_range hk] at hv
    simp only [Option.map_some, Option.some.injEq] at hv
    have h1 : k / sz < l.length := (Nat.div_lt_iff_lt_mul hp).2 hk
    have := (hc (k / sz) (k % sz) h1 (Nat.mod_lt _ hp)).1
    have e1 : k / sz * sz + k % sz = k := by have := Nat.div_add_mod k sz; rw [Nat.mul_comm] at this; exact this
    rw [Nat.add_assoc, e1] at this; rw [this, hv]

theorem Rows2.one {sz : Nat} {es : List (List D)} {vs : List Value} (h : Rows2 w Z sz es vs) (hes : ∀ e ∈ es, e.length = sz) (hp : 0 < sz) : ∀ v ∈ vs, v.oneCell' = true := by
  intro v hm
  obtain ⟨k, hk, he⟩ := List.getElem_of_mem hm
  have hk' : k < es.length * sz := by rw [← h.1]; exact hk
  have h1 : k / sz < es.length := (Nat.div_lt_iff_lt_mul hp).2 hk'
  have h2 : k % sz < (es[k / sz]).length := by rw [hes _ (List.getElem_mem h1)]; exact Nat.mod_lt _ hp
  have e1 : k / sz * sz + k % sz = k := by have := Nat.div_add_mod k sz; rw [Nat.mul_comm] at this; exact this
  exact (h.2 (k / sz) (k % sz) _ _ v (List.getElem?_eq_getElem h1) (List.getElem?_eq_getElem h2) (by rw [e1, List.getElem?_eq_getElem hk, he])).1

theorem appended_of {sz b o m c : Nat} {news : List Value} (hl : news.length = m * sz) (h : ∀ j v, news[j]? = some v → cellAt w b (o + j) = some v) (h1 : ∀ v ∈ news, v.oneCell' = true) :
    Appended P w sz (.slice (some ⟨b, o, none⟩) m c) m news :=
  ⟨by simp [Builtin.lenOf], firstCells_ptr b o sz m c news hl h, firstCells_ptr (w := w.drew) b o sz m c news hl h, hl, h1⟩
theorem appended_none {sz c : Nat} {a : Option Addr} : Appended P w sz (.slice a 0 c) 0 [] := by
  refine ⟨by simp [Builtin.lenOf], ?_, ?_, by simp, by simp⟩ <;> cases a <;> simp [Builtin.firstCells, loadCells, loadCellsFrom]

theorem vrows_run (h : WR B β σ w) {u : TypeId} {sz : Nat} {x : PV} {v : Value} {xs : List (List D)} (hp : 0 < sz) (hv : VRel β σ w (Zc B β σ w) x v) (hx : vrows P σ u sz x = some xs) :
    ((∃ e', P.underlying u = some (.slice e')) ∨ P.underlying u = some .string) ∧ (∀ e ∈ xs, e.length = sz) ∧
    ∃ news, Rows2 w (Zc B β σ w) sz xs news ∧ Appended P w sz v xs.length news := by
  unfold vrows at hx
  split at hx
  · rename_i e hu
    cases hx
    cases hv
    exact ⟨.inl ⟨_, hu⟩, by simp, [], ⟨by simp, by simp⟩, appended_none⟩
  · rename_i e hu
    cases hx
    cases hv
    exact ⟨.inl ⟨_, hu⟩, by simp, [], ⟨by simp, by simp⟩, appended_none⟩
  · rename_i id g s k e hu
    split at hx
    · rename_i lv g' sz' es ho
      split at hx
      · rename_i hc
        obtain ⟨rfl, rfl, hk⟩ := hc
        cases hx
        have hlen := (h.inv.holds id _ ho).1
        have hlen' : ∀ e ∈ (es.drop s).take k, e.length = sz' := fun e he => hlen e (List.mem_of_mem_drop (List.mem_of_mem_take he))
        refine ⟨.inl ⟨_, hu⟩, hlen', ?_⟩
        have hlk : ((es.drop s).take k).length = k := by simp; omega
        cases hv with
        | sl _ _ _ _ a m c o ho' hg hpl =>
          rw [ho] at ho'; cases ho'
          have hpl := hpl rfl rfl
          cases hq : β id with
          | none =>
            rw [hq] at hpl; obtain ⟨_, hk0, he⟩ := hpl
            cases he; subst hk0
            simp only [List.take_zero, List.length_nil]
            exact ⟨[], ⟨by simp, by simp⟩, appended_none⟩
          | some q =>
            rw [hq] at hpl
            obtain ⟨cap, he, hcap, hfit⟩ := hpl
            cases he
            obtain ⟨vs, hrow, hcell⟩ := rowCells h ho hq
            have hqs := (hq ▸ h.inv.holds id _ ho).2.1
            have hpre : s * sz' + k * sz' ≤ vs.length := by
              rw [hrow.1, ← Nat.add_mul]; exact Nat.mul_le_mul_right _ hk
            have hnl : ((vs.drop (s * sz')).take (k * sz')).length = k * sz' := by simp; omega
            have hcells : ∀ j v, ((vs.drop (s * sz')).take (k * sz'))[j]? = some v → cellAt w q.blk (q.base + s * q.sz + j) = some v := by
              intro j v hj
              rw [List.getElem?_take] at hj
              split at hj
              · rw [List.getElem?_drop] at hj
                have := hcell _ v hj
                rw [hqs, Nat.add_assoc]; exact this
              · simp at hj
            have hrows2 : Rows2 w (Zc B β σ w) sz' ((es.drop s).take k) ((vs.drop (s * sz')).take (k * sz')) := by
              refine ⟨by rw [hnl, hlk], fun i j e x v hi hj hv => ?_⟩
              rw [List.getElem?_take] at hi hv
              split at hi
              · split at hv
                · rw [List.getElem?_drop] at hi hv
                  refine hrow.2 (s + i) j e x v hi hj ?_
                  rw [← hv, Nat.add_mul]; congr 1; omega
                · simp at hv
              · simp at hi
            refine ⟨_, hrows2, ?_⟩
            rw [hlk]
            exact appended_of hnl hcells (hrows2.one hlen' hp)
      · simp at hx
    · simp at hx
  · rename_i l e hu
    split at hx
    · rename_i hall
      cases hx
      have hlen : ∀ e ∈ xs, e.length = sz := fun e he => by have := List.all_eq_true.1 hall e he; rwa [beq_iff_eq] at this
      refine ⟨.inl ⟨_, hu⟩, hlen, ?_⟩
      cases hv with
      | d _ _ hd =>
        cases hd with
        | fz0 a cap => exact ⟨[], ⟨by simp, by simp⟩, appended_none⟩
        | fz _ b off cap sz' f hcap hsz hz hc hr =>
          by_cases h0 : xs = []
          · subst h0; exact ⟨[], ⟨by simp, by simp⟩, appended_none⟩
          · have hs : sz' = sz := by
              cases xs with
              | nil => exact absurd rfl h0
              | cons e0 _ => rw [← hsz e0 (by simp), hlen e0 (by simp)]
            subst hs
            obtain ⟨vs, hrow, hcell⟩ := fz_rows hsz hc hr hp
            exact ⟨vs, hrow, appended_of hrow.1 hcell (hrow.one hlen hp)⟩
    · simp at hx
  · rename_i l hu
    split at hx
    · rename_i h1
      cases hx; subst h1
      refine ⟨.inr hu, by simp, ?_⟩
      cases hv with
      | d _ _ hd =>
        cases hd with
        | str _ s hs =>
          subst hs
          refine ⟨s.data.toList.map fun b => .int .u8 b.toNat, ⟨by simp, fun i j e x v hi hj hv => ?_⟩, ?_⟩
          · rw [List.getElem?_map] at hi
            cases hb : s.data.toList[i]? with
            | none => rw [hb] at hi; simp at hi
            | some b =>
              rw [hb] at hi; simp at hi; subst hi
              have hj0 : j = 0 := by have := get_lt hj; simp at this; exact this
              subst hj0
              simp at hj; subst hj
              rw [Nat.mul_one, Nat.add_zero, List.getElem?_map, hb] at hv
              simp at hv; subst hv
              exact ⟨rfl, .int _ _⟩
          · have hlen2 : (s.data.toList.map fun b => [D.int .u8 b.toNat]).length = s.size := by rw [List.length_map]; exact (size_len s).symm
            have hmap : (s.extract 0 s.size).data.map (fun b => Value.int .u8 b.toNat) = (s.data.toList.map fun b => Value.int .u8 b.toNat).toArray := by
              rw [ByteArray.extract_zero_size]; apply Array.ext'; simp
            rw [hlen2]
            refine ⟨rfl, ?_, ?_, by rw [List.length_map, Nat.mul_one]; exact (size_len s).symm, by simp [Value.oneCell']⟩
            · show Result.ok _ w = _
              rw [hmap]
            · show Result.ok _ w.drew = _
              rw [hmap]
    · simp at hx
  · simp at hx

theorem vappend_run (h : WR B β σ w) {t u ty : TypeId} {s x y : PV} {v r : Value} {σ' : St} (hs : VRel β σ w (Zc B β σ w) s v) (hx : VRel β σ w (Zc B β σ w) x r) (hy : vappend P σ t u s x = some (y, σ')) :
    ∃ v' w' β', (Builtin.append_ #[t, u] ty #[v, r]).run P w = .ok v' w' ∧ Mv B β σ w β' σ' w' ∧ VRel β' σ' w' (Zc B β' σ' w') y v' := by
  unfold vappend at hy
  split at hy
  · rename_i ei hei
    obtain ⟨e, i, z, hu, hi, hz, hsz, hby, hzc, hzl, hb1, hs1⟩ := eiP_spec hei
    split at hy
    · rename_i xs hrows
      obtain ⟨htu, hlen, news, hrow, happ⟩ := vrows_run h hs1 hx hrows
      have hzs : z.cells.size = ei.size := by rw [hzc]; simpa using hzl
      split at hy
      · rename_i id g n
        split at hy
        · rename_i g' sz es ho
          split at hy
          · rename_i hc
            obtain ⟨rfl, rfl, rfl, hfit⟩ := hc
            cases hy
            cases hs with
            | sl _ _ _ _ a m c o ho' hg hpl =>
              rw [ho] at ho'; cases ho'
              have h63 : es.length + xs.length ≤ 9223372036854775807 := by
                have : (es.length + xs.length) * 1 ≤ (es.length + xs.length) * ei.bytes := Nat.mul_le_mul_left _ hb1
                omega
              obtain ⟨v', w', β', h1, h2, h3⟩ := Mv.append h ho (hpl rfl rfl) t u ty e i z hu htu hi hz hsz hzs happ hrow hlen (by rw [hby]; exact hfit) h63
              have hshape : ∃ a m c, v' = .slice a m c := by
                cases hq : β' id with
                | none => rw [hq] at h3; obtain ⟨_, _, he⟩ := h3; exact ⟨_, _, _, he⟩
                | some q => rw [hq] at h3; obtain ⟨cap, he, _⟩ := h3; exact ⟨_, _, _, he⟩
              obtain ⟨a', m', c', rfl⟩ := hshape
              exact ⟨_, w', β', h1, h2, .sl _ _ _ _ _ _ _ _ (set_self ho) (Nat.le_refl _) (fun _ _ => h3)⟩
          · simp at hy
        · simp at hy
      · split at hy
        · rename_i hfit
          cases hy
          cases hs
          have hm := Mv.newNil h ei.size
          have ho : (σ ++ [Ob.arr true 0 ei.size []])[σ.length]? = some (.arr true 0 ei.size []) := by simp
          have h63 : xs.length ≤ 9223372036854775807 := by
            have : xs.length * 1 ≤ xs.length * ei.bytes := Nat.mul_le_mul_left _ hb1
            omega
          have hrow' : Rows2 w (Zc B (nextBt β σ.length none) (σ ++ [Ob.arr true 0 ei.size []]) w) ei.size xs news :=
            ⟨hrow.1, fun i j e x v hi hj hv => ⟨(hrow.2 i j e x v hi hj hv).1, hm.drel (hrow.2 i j e x v hi hj hv).2⟩⟩
          obtain ⟨v', w', β', h1, h2, h3⟩ := Mv.append hm.wr ho (by show SlPlace (nextBt β σ.length none σ.length) 0 0 _; rw [show nextBt β σ.length none σ.length = none from by simp [nextBt]]; exact ⟨rfl, rfl, rfl⟩) t u ty e i z hu htu hi hz hsz hzs happ hrow' hlen (by rw [hby]; simpa using hfit) (by simpa using h63)
          have hshape : ∃ a m c, v' = .slice a m c := by
            cases hq : β' σ.length with
            | none => rw [hq] at h3; obtain ⟨_, _, he⟩ := h3; exact ⟨_, _, _, he⟩
            | some q => rw [hq] at h3; obtain ⟨cap, he, _⟩ := h3; exact ⟨_, _, _, he⟩
          obtain ⟨a', m', c', rfl⟩ := hshape
          have e1 : (σ ++ [Ob.arr true 0 ei.size []]).set σ.length (.arr true (0 + 1) ei.size ([] ++ xs)) = σ ++ [.arr true 1 ei.size xs] := by simp
          rw [e1] at h2
          simp only [List.length_nil, Nat.zero_add] at h3
          exact ⟨_, w', β', h1, hm.trans h2, .sl _ _ _ _ _ _ _ (.arr true 1 ei.size xs) (by simp) (Nat.le_refl _) (fun _ _ => h3)⟩
        · simp at hy
      · simp at hy
    · simp at hy
  · simp at hy

end
end Go.VL
namespace Go.VL
open Go

/-- make of a length and room. -/
def vmake (P : Program) (σ : St) (t : TypeId) (l c : PV) : Option (PV × St) :=
  match eiP P t, l, c with
  | some ei, .d (.int _ n), .d (.int _ n') => match ei.zero.mapM dC with
    | some zd => if 0 ≤ n ∧ n ≤ n' ∧ n' * ei.bytes ≤ 140737488355328 then some (.sl σ.length 0 0 n.toNat, σ ++ [.arr true 0 ei.size (List.replicate n.toNat zd)]) else none
    | none => none
  | _, _, _ => none

/-- A literal's parts, laid in. -/
def vparts (σ : St) (sz : Nat) : List (Nat × PV) → List (List D) → Option (List (List D))
  | [], es => some es
  | (i, x) :: rest, es => match x.cells with
    | some c => match closeL σ c with
      | some ds => if i < es.length ∧ ds.length = sz ∧ c.all PV.one = true then vparts σ sz rest (es.set i ds) else none
      | none => none
    | none => none
def partIds (σ : St) (parts : List (Nat × PV)) : List Nat := parts.flatMap fun p => match p.2.cells with
  | some c => idsL σ c
  | none => []
def vbuildSlice (P : Program) (m : Nat) (σ : St) (t : TypeId) (len : Nat) (parts : List (Nat × PV)) : Option (PV × St) :=
  match eiP P t with
  | some ei => match ei.zero.mapM dC with
    | some zd => match vparts σ ei.size parts (List.replicate len zd) with
      | some es => if len * ei.size ≤ 16777216 ∧ (partIds σ parts).all (fun j => decide (m ≤ j)) = true then
          some (.sl σ.length 0 0 len, (partIds σ parts).foldl frz1 σ ++ [.arr true 0 ei.size es]) else none
      | none => none
    | none => none
  | none => none

section
variable {P : Program} {B : Base} {β : Bt} {σ : St} {w : World} {Z : Nat → Prop}

theorem dC_one {v : Value} {x : D} (h : dC v = some x) : v.oneCell' = true := by
  unfold dC at h
  split at h <;> simp at h <;> rfl

theorem made_rows {z : Array Value} {zl : List Value} {zd : List D} {sz : Nat} (hz : z = zl.toArray) (hl : zl.length = sz) (hd : zl.mapM dC = some zd) (n N : Nat) (hn : n ≤ N) :
    (∀ e ∈ List.replicate n zd, e.length = sz) ∧ (madeCells z (N * sz)).toList.length = N * sz ∧
    ∀ (i j : Nat) (e : List D) (x : D) (v : Value), (List.replicate n zd)[i]? = some e → e[j]? = some x → (madeCells z (N * sz)).toList[i * sz + j]? = some v → v.oneCell' = true ∧ DRel w Z x v := by
  obtain ⟨h1, h2⟩ := mapM_some hd
  refine ⟨?_, by simp [madeCells], ?_⟩
  · intro e he; rw [List.eq_of_mem_replicate he, ← h1, hl]
  · intro i j e x v hi hj hv
    have hin : i < n := by have := get_lt hi; simpa using this
    have he : e = zd := List.eq_of_mem_replicate (List.mem_of_getElem? hi)
    subst he
    have hjz : j < sz := by rw [← hl, h1]; exact get_lt hj
    have hlt : i * sz + j < N * sz := idx_lt (by omega) hjz
    have hmod : (i * sz + j) % sz = j := by rw [Nat.mul_comm, Nat.mul_add_mod]; exact Nat.mod_eq_of_lt hjz
    subst hz
    simp only [madeCells, Array.toList_map, Array.toList_range, List.getElem?_map] at hv
    rw [List.getElem?_range hlt] at hv
    simp only [Option.map_some, Option.some.injEq, List.size_toArray, hl, hmod] at hv
    have hjl : j < zl.length := by rw [hl]; exact hjz
    have hx : dC zl[j] = some x := h2 j _ x (List.getElem?_eq_getElem hjl) hj
    have hv' : v = zl[j] := by rw [← hv]; simp [hjl]
    subst hv'
    exact ⟨dC_one hx, dC_rel hx⟩

theorem vmake_run (h : WR B β σ w) {t : TypeId} {l c y : PV} {lv cv : Value} {σ' : St} (hl : VRel β σ w (Zc B β σ w) l lv) (hc : VRel β σ w (Zc B β σ w) c cv) (hy : vmake P σ t l c = some (y, σ')) :
    ∃ v' w' β', (Instr.makeSlice t lv cv).run P w = .ok v' w' ∧ Mv B β σ w β' σ' w' ∧ VRel β' σ' w' (Zc B β' σ' w') y v' := by
  unfold vmake at hy
  split at hy
  · rename_i ei k n k' n' hei
    obtain ⟨e, i, z, hu, hi, hz, hsz, hby, hzc, hzl, hb1, hs1⟩ := eiP_spec hei
    split at hy
    · rename_i zd hzd
      split at hy
      · rename_i hn
        obtain ⟨h0, h1, h2⟩ := hn
        cases hy
        cases hl with
        | d _ _ hd =>
          cases hd
          cases hc with
          | d _ _ hd =>
            cases hd
            have hr := run_make (P := P) w t e i z hu hi hz k k' n n' h0 h1 (by rw [hby, Int.mul_comm]; omega) (by
              have : n' * 1 ≤ n' * (ei.bytes : Int) := Int.mul_le_mul_of_nonneg_left (by omega) (by omega)
              omega)
            obtain ⟨hr1, hr2, hr3⟩ := made_rows (w := w) (Z := Zc B β σ w) hzc hzl hzd n.toNat n'.toNat (by omega)
            obtain ⟨β', hmv, hpl⟩ := Mv.newArr h ei.size (List.replicate n.toNat zd) (madeCells z.cells (n'.toNat * ei.size)).toList e hr1 (by rw [hr2, List.length_replicate]; exact Nat.mul_le_mul_right _ (by omega)) hr3
            have e1 : (madeCells z.cells (n'.toNat * ei.size)).toList.toArray = madeCells z.cells (n'.toNat * i.size) := by rw [hsz]
            rw [e1] at hmv
            refine ⟨_, _, β', hr, hmv, .sl _ _ _ _ _ _ _ (.arr true 0 ei.size (List.replicate n.toNat zd)) (by simp) (Nat.le_refl _) (fun _ _ => ?_)⟩
            rw [hpl]
            exact ⟨n'.toNat, by simp, by omega, by simp only [Nat.zero_add]; rw [hr2]; exact Nat.le_refl _⟩
      · simp at hy
    · simp at hy
  · simp at hy

theorem foldl_set (off : Nat) : ∀ (vs : List Value) (k : Nat) (cells : Array Value), off + k + vs.length ≤ cells.size →
    ((vs.zipIdx k).foldl (fun cs (p : Value × Nat) => cs.setIfInBounds (off + p.2) p.1) cells).toList = spl cells.toList (off + k) vs
  | [], k, cells, _ => by simp [spl]
  | v :: vs, k, cells, h => by
    rw [List.zipIdx_cons, List.foldl_cons, foldl_set off vs (k + 1) _ (by simp at h ⊢; omega)]
    apply List.ext_getElem?
    intro j
    simp only [List.length_cons] at h
    rw [spl_get (by simp; omega), spl_get (by simp; omega)]
    simp only [List.length_cons, Array.toList_setIfInBounds, List.getElem?_set]
    by_cases h1 : off + (k + 1) ≤ j ∧ j < off + (k + 1) + vs.length
    · rw [if_pos h1, if_pos (by omega), show j - (off + k) = (j - (off + (k + 1))) + 1 from by omega]; simp
    · rw [if_neg h1]
      by_cases h2 : off + k = j
      · subst h2; rw [if_pos rfl, if_pos (by simp; omega), if_pos (by omega)]; simp
      · rw [if_neg h2, if_neg (by omega)]

theorem fill_step {place : Nat → Option (Nat × Nat)} {cells : Array Value} {i off sz : Nat} {v : Value} {rest : List (Nat × Value)} (hp : place i = some (off, sz)) (hs : v.cells.size = sz) (hf : off + sz ≤ cells.size) :
    Instr.fill place cells ((i, v) :: rest) = Instr.fill place (spl cells.toList off v.cells.toList).toArray rest := by
  have h1 : ¬ ((decide (v.cells.size ≠ sz) || decide (off + v.cells.size > cells.size)) = true) := by
    simp only [Bool.or_eq_true, decide_eq_true_eq]; omega
  have h2 := foldl_set off v.cells.toList 0 cells (by simp; omega)
  simp only [Instr.fill, hp]
  rw [if_neg h1]
  congr 1
  apply Array.ext'
  rw [Nat.add_zero] at h2
  rw [← h2]
  congr 1
  rw [← Array.foldl_toList]
  congr 1
  simp

/-- The parts' values are told by the operands. -/
def PartsRel (β : Bt) (σ : St) (w : World) (Z : Nat → Prop) (ps : List (Nat × PV)) (vs : List (Nat × Value)) : Prop :=
  ps.length = vs.length ∧ ∀ (j : Nat) (p : Nat × PV) (v : Nat × Value), ps[j]? = some p → vs[j]? = some v → p.1 = v.1 ∧ VRel β σ w Z p.2 v.2

theorem PartsRel.cons {p : Nat × PV} {v : Nat × Value} {ps : List (Nat × PV)} {vs : List (Nat × Value)} (h : PartsRel β σ w Z (p :: ps) (v :: vs)) : (p.1 = v.1 ∧ VRel β σ w Z p.2 v.2) ∧ PartsRel β σ w Z ps vs :=
  ⟨h.2 0 p v rfl rfl, by have := h.1; simp at this; exact this, fun j p v hp hv => h.2 (j + 1) p v (by simpa using hp) (by simpa using hv)⟩

/-- What the cells of a row to be are good for: the data of the parts lie in blocks that will stay. -/
def RowOK (w : World) (Z : Nat → Prop) (sz : Nat) (es : List (List D)) (vs : List Value) : Prop :=
  (∀ e ∈ es, e.length = sz) ∧ Rows2 w Z sz es vs

theorem vparts_fill {B : Base} (h : WR B β σ w) {Z : Nat → Prop} (hz : ∀ b, Zc B β σ w b → Z b) {sz n : Nat} : ∀ (ps : List (Nat × PV)) (vs : List (Nat × Value)) (es es' : List (List D)) (cells : List Value),
    PartsRel β σ w (Zc B β σ w) ps vs → vparts σ sz ps es = some es' → RowOK w Z sz es cells → es.length = n →
    (∀ id ∈ partIds σ ps, ∀ o q, σ[id]? = some o → o.alive = true → β id = some q → Z q.blk) →
    ∃ cells', Instr.fill (fun i => some (i * sz, sz)) cells.toArray vs = some cells'.toArray ∧ RowOK w Z sz es' cells' ∧ es'.length = n
  | [], vs, es, es', cells, hr, hp, hrow, hn, _ => by
    have : vs = [] := by have := hr.1; simp at this; exact List.eq_nil_of_length_eq_zero this.symm
    subst this
    simp [vparts] at hp; subst hp
    exact ⟨cells, rfl, hrow, hn⟩
  | (i, x) :: ps, vs, es, es', cells, hr, hp, hrow, hn, hids => by
    cases vs with
    | nil => have := hr.1; simp at this
    | cons v vs =>
      obtain ⟨⟨he, hv⟩, hr'⟩ := hr.cons
      obtain ⟨i', u⟩ := v
      simp only at he hv; subst he
      simp only [vparts] at hp
      split at hp
      · rename_i c hc
        split at hp
        · rename_i ds hcl
          split at hp
          · rename_i hk
            obtain ⟨hi, hds, hone⟩ := hk
            obtain ⟨us, hus, hrel⟩ := cells_rel hv hc
            obtain ⟨hl1, hl2⟩ := mapM_some hcl
            have husl : us.length = sz := by rw [← hrel.1, hl1, hds]
            have hd : ∀ (j : Nat) (y : D) (u : Value), ds[j]? = some y → us[j]? = some u → DRel w Z y u := by
              intro j y u hy hu
              have hj : j < c.length := by rw [hl1]; exact get_lt hy
              refine toD_gen h hz 5 c[j] u y (hl2 j _ y (List.getElem?_eq_getElem hj) hy) (hrel.2 j _ u (List.getElem?_eq_getElem hj) hu) (fun id hid => hids id ?_)
              refine List.mem_flatMap.2 ⟨(i, x), by simp, ?_⟩
              simp only [hc]
              exact List.mem_flatMap.2 ⟨c[j], List.getElem_mem hj, hid⟩
            have hcl2 : cells.length = es.length * sz := hrow.2.1
            have hfit : i * sz + sz ≤ cells.length := by
              rw [hcl2]; have : (i + 1) * sz ≤ es.length * sz := Nat.mul_le_mul_right _ hi
              rw [Nat.add_mul] at this; omega
            have hfit2 : i * sz + us.length ≤ cells.length := by omega
            have hrow2 : RowOK w Z sz (es.set i ds) (spl cells (i * sz) us) := by
              refine ⟨fun e he => ?_, by rw [spl_length hfit2, hcl2]; simp, fun k j e y v hk hj hv => ?_⟩
              · rcases List.mem_or_eq_of_mem_set he with h1 | h1
                · exact hrow.1 e h1
                · rw [h1, hds]
              · rw [spl_get hfit2] at hv
                have hkl : k < es.length := by have := get_lt hk; simpa using this
                by_cases hki : k = i
                · subst hki
                  have : e = ds := by simpa [List.getElem?_set, hkl] using hk.symm
                  subst this
                  have hjl := get_lt hj
                  rw [if_pos (by omega), show k * sz + j - k * sz = j from by omega] at hv
                  have hvm : v ∈ us := List.mem_of_getElem? hv
                  exact ⟨all_one_rel hrel hone v hvm, hd j y v hj hv⟩
                · rw [List.getElem?_set_ne (fun h => hki h.symm)] at hk
                  have hjl : j < sz := by rw [← hrow.1 e (List.mem_of_getElem? hk)]; exact get_lt hj
                  have hne : ¬ (i * sz ≤ k * sz + j ∧ k * sz + j < i * sz + us.length) := by
                    rcases Nat.lt_or_gt_of_ne hki with h1 | h1
                    · have : (k + 1) * sz ≤ i * sz := Nat.mul_le_mul_right _ h1
                      rw [Nat.add_mul] at this; omega
                    · have : (i + 1) * sz ≤ k * sz := Nat.mul_le_mul_right _ h1
                      rw [Nat.add_mul] at this; omega
                  rw [if_neg hne] at hv
                  exact hrow.2.2 k j e y v hk hj hv
            obtain ⟨cells', hf, hok, hn'⟩ := vparts_fill h hz ps vs (es.set i ds) es' (spl cells (i * sz) us) hr' hp hrow2 (by simpa using hn)
              (fun id hid => hids id (by simp only [partIds, List.flatMap_cons, List.mem_append]; exact .inr hid))
            refine ⟨cells', ?_, hok, hn'⟩
            rw [fill_step (off := i * sz) (sz := sz) rfl (by rw [hus]; simpa using husl) (by simpa using hfit)]
            rw [hus]; exact hf
          · simp at hp
        · simp at hp
      · simp at hp

theorem vbuildSlice_run (h : WR B β σ w) {t : TypeId} {len : Nat} {ps : List (Nat × PV)} {vs : List (Nat × Value)} {y : PV} {σ' : St} (hr : PartsRel β σ w (Zc B β σ w) ps vs)
    (hy : vbuildSlice P B.σ.length σ t len ps = some (y, σ')) :
    ∃ v' w' β', (Instr.buildSlice t len vs.toArray).run P w = .ok v' w' ∧ Mv B β σ w β' σ' w' ∧ VRel β' σ' w' (Zc B β' σ' w') y v' := by
  unfold vbuildSlice at hy
  split at hy
  · rename_i ei hei
    obtain ⟨e, i, z, hu, hi, hz, hsz, hby, hzc, hzl, hb1, hs1⟩ := eiP_spec hei
    split at hy
    · rename_i zd hzd
      split at hy
      · rename_i es hp
        split at hy
        · rename_i hk
          obtain ⟨hlim, hall⟩ := hk
          cases hy
          obtain ⟨hm, hl⟩ := frzs_sound (partIds σ ps) σ h
          have hids : ∀ j ∈ partIds σ ps, B.σ.length ≤ j := fun j hj => of_decide_eq_true (List.all_eq_true.1 hall j hj)
          have hmade := made_rows (w := w) (Z := Zc B β ((partIds σ ps).foldl frz1 σ) w) hzc hzl hzd len len (Nat.le_refl _)
          obtain ⟨hr1, hr2, hr3⟩ := hmade
          obtain ⟨cells', hf, hok, hlen⟩ := vparts_fill h hm.zc ps vs (List.replicate len zd) es (madeCells z.cells (len * ei.size)).toList hr hp
            ⟨hr1, by rw [hr2]; simp, hr3⟩ (n := len) (by simp) (fun id hid o q ho ha hq => by
              have hlt := Inv.lt h ho ha hq
              obtain ⟨o', ho', ha', hl', _⟩ := hl id o ho
              have hlf := hl' hid
              refine ⟨?_, fun hown => ?_, hlt⟩
              · rcases h.place id o q ho ha hq with h1 | ⟨o0, q0, h1, _⟩
                · exact .inr h1
                · have := get_lt h1; have := hids id hid; omega
              · obtain ⟨j, oj, p, hj, hlj, hp, hb⟩ := hown
                by_cases e : j = id
                · subst e
                  rw [ho'] at hj
                  cases hj; rw [hlf] at hlj; simp at hlj
                · exact hm.wr.inv.apart j oj id o' p q hj ho' hlj (by rw [ha', ha]) e hp hq hb)
          obtain ⟨β', hmv, hpl⟩ := Mv.newArr hm.wr ei.size es cells' e hok.1 (by rw [hok.2.1]; exact Nat.le_refl _) hok.2.2
          refine ⟨.slice (some ⟨w.heap.size, 0, none⟩) len len, _, β', ?_, hm.trans hmv, .sl _ _ _ _ _ _ _ (.arr true 0 ei.size es) ?_ (Nat.le_refl _) (fun _ _ => ?_)⟩
          · have hlim' : ¬ (16777216 < len * i.size) := by rw [hsz]; omega
            have hfill : Instr.fill (fun k => some (k * i.size, i.size)) (madeCells z.cells (len * i.size)) vs = some cells'.toArray := by rw [hsz]; simpa using hf
            by_cases h0 : len * i.size = 0
            · have hf2 := hfill
              rw [h0] at hf2
              simp only [Instr.buildSlice, Sem.run_bind, run_underlying hu, Result.andThen_ok, sizeOf, typeInfo, run_program, hi, Sem.run_pure, Sem.run_ite]
              simp only [h0, madeCells] at hf2 ⊢
              have hf3 : Instr.fill (fun k => some (k * i.size, i.size)) #[] vs = some cells'.toArray := by simpa [Array.range_zero'] using hf2
              have hf4 : ∀ g : Nat → Value, Instr.fill (fun k => some (k * i.size, i.size)) (Array.map g (Array.range 0)) vs = some cells'.toArray := fun g => by simpa [Array.range_zero'] using hf3
              simp [hf4, newRow]
            · simp only [madeCells] at hfill
              simp [Instr.buildSlice, run_underlying hu, sizeOf, typeInfo, hi, zeroValue, hz, hlim', h0, hfill, newRow]
          · have : ((partIds σ ps).foldl frz1 σ).length = σ.length := by
              have key : ∀ (l : List Nat) (τ : St), (l.foldl frz1 τ).length = τ.length := by
                intro l
                induction l with
                | nil => intro τ; rfl
                | cons a l ih => intro τ; rw [List.foldl_cons, ih]; unfold frz1; split <;> simp
              exact key _ _
            rw [← this]; simp
          · have e2 : ((partIds σ ps).foldl frz1 σ).length = σ.length := by
              have key : ∀ (l : List Nat) (τ : St), (l.foldl frz1 τ).length = τ.length := by
                intro l
                induction l with
                | nil => intro τ; rfl
                | cons a l ih => intro τ; rw [List.foldl_cons, ih]; unfold frz1; split <;> simp
              exact key _ _
            rw [← e2, hpl]
            exact ⟨len, by simp, Nat.le_refl _, by simp only [Nat.zero_add]; rw [hok.2.1, hlen]; exact Nat.le_refl _⟩
        · simp at hy
      · simp at hy
    · simp at hy
  · simp at hy
end
end Go.VL
namespace Go.VL
open Go

def placesP (P : Program) (t : TypeId) : Option (Nat → Option (Nat × Nat)) :=
  match P.underlying t with
  | some (.struct fs) => (fs.toList.mapM fun f => (szP P f.type).map fun n => (f.offset, n)).map fun l => fun i => l[i]?
  | some (.array _ e) => (szP P e).map fun n => fun i => some (i * n, n)
  | _ => none

def vfill (place : Nat → Option (Nat × Nat)) : List (Nat × PV) → List PV → Option (List PV)
  | [], cells => some cells
  | (i, x) :: rest, cells => match place i, x.cells with
    | some (off, sz), some c => if c.length = sz ∧ off + sz ≤ cells.length then vfill place rest (spl cells off c) else none
    | _, _ => none

def vbuild (P : Program) (t : TypeId) (parts : List (Nat × PV)) : Option PV :=
  match placesP P t, zeroP P t with
  | some place, some z => (vfill place parts (z.cells.toList.map pvC)).map .agg
  | _, _ => none

section
variable {P : Program} {B : Base} {β : Bt} {σ : St} {w : World} {Z : Nat → Prop}

theorem run_mapM {α γ : Type} {f : α → Sem γ} {g : α → γ} : ∀ (l : List α), (∀ x ∈ l, (f x).run P w = .ok (g x) w) → (l.mapM f).run P w = .ok (l.map g) w
  | [], _ => rfl
  | a :: l, h => by
    rw [List.mapM_cons]
    simp only [Sem.run_bind, h a (by simp), Result.andThen_ok, run_mapM l (fun x hx => h x (by simp [hx])), Sem.run_pure, List.map_cons]

theorem placesP_run {t : TypeId} {place : Nat → Option (Nat × Nat)} (h : placesP P t = some place) {z : Value} (hz : zeroP P t = some z) (vs : List (Nat × Value)) {cells : Array Value}
    (hf : Instr.fill place z.cells vs = some cells) : (Instr.build t vs.toArray).run P w = .ok (.agg cells) w := by
  have hzv : (zeroValue t).run P w = .ok z w := by
    unfold zeroP at hz
    cases hi : P.info? t with
    | none => simp [hi] at hz
    | some i => simp [hi] at hz; simp [zeroValue, typeInfo, hi, hz]
  unfold placesP at h
  split at h
  · rename_i fs hu
    cases hm : (fs.toList.mapM fun f => (szP P f.type).map fun n => (f.offset, n)) with
    | none => simp [hm] at h
    | some l =>
      simp [hm] at h; subst h
      obtain ⟨h1, h2⟩ := mapM_some hm
      have hsz : ∀ f ∈ fs.toList, (do pure (f.offset, ← sizeOf f.type) : Sem (Nat × Nat)).run P w = .ok (f.offset, ((szP P f.type).getD 0)) w := by
        intro f hf'
        obtain ⟨j, hj, he⟩ := List.getElem_of_mem hf'
        have hjl : j < l.length := by rw [← h1]; exact hj
        have := h2 j f _ (by rw [List.getElem?_eq_getElem hj, he]) (List.getElem?_eq_getElem hjl)
        cases hs : szP P f.type with
        | none => simp [hs] at this
        | some n =>
          unfold szP at hs
          cases hi : P.info? f.type with
          | none => simp [hi] at hs
          | some i => simp [hi] at hs; simp [sizeOf, typeInfo, hi, hs]
      have hl : l = fs.toList.map fun f => (f.offset, (szP P f.type).getD 0) := by
        apply List.ext_getElem?
        intro j
        rw [List.getElem?_map]
        rcases Nat.lt_or_ge j l.length with hj | hj
        · have hj' : j < fs.toList.length := by rw [h1]; exact hj
          have := h2 j _ _ (List.getElem?_eq_getElem hj') (List.getElem?_eq_getElem hj)
          rw [List.getElem?_eq_getElem hj, List.getElem?_eq_getElem hj']
          simp only [Option.map_some]
          generalize fs.toList[j] = f0 at this
          cases hs : szP P f0.type with
          | none => rw [hs] at this; simp at this
          | some n => rw [hs] at this; simp only [Option.map_some] at this; rw [← this]; rfl
        · rw [List.getElem?_eq_none hj, List.getElem?_eq_none (by rw [h1]; exact hj)]; rfl
      have hmap := run_mapM (P := P) (w := w) (f := fun f : Field => (do pure (f.offset, ← sizeOf f.type) : Sem (Nat × Nat))) (g := fun f => (f.offset, (szP P f.type).getD 0)) fs.toList hsz
      have hmapA : (fs.mapM (fun f : Field => (do pure (f.offset, ← sizeOf f.type) : Sem (Nat × Nat)))).run P w = .ok l.toArray w := by
        rw [Array.mapM_eq_mapM_toList, Sem.run_map, hmap, hl]; rfl
      simp only [Instr.build, Sem.run_bind, hzv, Result.andThen_ok, run_underlying hu, hmapA]
      rw [show (fun x : Nat => (l.toArray)[x]?) = fun i : Nat => l[i]? from by funext i; simp]
      simp [hf]
  · rename_i n e hu
    cases hs : szP P e with
    | none => simp [hs] at h
    | some sz =>
      simp [hs] at h; subst h
      unfold szP at hs
      cases hi : P.info? e with
      | none => simp [hi] at hs
      | some i =>
        simp [hi] at hs; subst hs
        simp [Instr.build, hzv, run_underlying hu, sizeOf, typeInfo, hi, hf]
  · simp at h

theorem vfill_rel {place : Nat → Option (Nat × Nat)} : ∀ (ps : List (Nat × PV)) (vs : List (Nat × Value)) (c : List PV) (cells : List Value) (r : List PV), PartsRel β σ w Z ps vs → VRelL β σ w Z c cells → vfill place ps c = some r →
    ∃ cells', Instr.fill place cells.toArray vs = some cells'.toArray ∧ VRelL β σ w Z r cells'
  | [], vs, c, cells, r, hp, hc, hr => by
    have : vs = [] := by have := hp.1; simp at this; exact List.eq_nil_of_length_eq_zero this.symm
    subst this; simp [vfill] at hr; subst hr
    exact ⟨cells, rfl, hc⟩
  | (i, x) :: ps, vs, c, cells, r, hp, hc, hr => by
    cases vs with
    | nil => have := hp.1; simp at this
    | cons v vs =>
      obtain ⟨⟨he, hv⟩, hp'⟩ := hp.cons
      obtain ⟨i', u⟩ := v
      simp only at he hv; subst he
      simp only [vfill] at hr
      split at hr
      · rename_i off sz cx hpl hcx
        split at hr
        · rename_i hk
          obtain ⟨us, hus, hrel⟩ := cells_rel hv hcx
          have h1 : off + cx.length ≤ c.length := by rw [hk.1]; exact hk.2
          have h2 : off + us.length ≤ cells.length := by rw [← hrel.1, ← hc.1]; exact h1
          have hrow : VRelL β σ w Z (spl c off cx) (spl cells off us) := by
            refine ⟨by rw [spl_length h1, spl_length h2]; exact hc.1, fun j y u hj hu => ?_⟩
            rw [spl_get h1] at hj; rw [spl_get h2] at hu
            have hle := hrel.1
            by_cases hin : off ≤ j ∧ j < off + cx.length
            · rw [if_pos hin] at hj; rw [if_pos (by omega)] at hu; exact hrel.2 _ y u hj hu
            · rw [if_neg hin] at hj; rw [if_neg (by omega)] at hu; exact hc.2 _ y u hj hu
          obtain ⟨cells', hf, hrel'⟩ := vfill_rel ps vs (spl c off cx) (spl cells off us) r hp' hrow hr
          refine ⟨cells', ?_, hrel'⟩
          have hcl := hc.1
          have hul := hrel.1
          rw [fill_step (off := off) (sz := sz) hpl (by rw [hus]; simp; omega) (by simp; omega)]
          rw [hus]; exact hf
        · simp at hr
      · simp at hr

theorem vbuild_run {t : TypeId} {ps : List (Nat × PV)} {vs : List (Nat × Value)} {y : PV} (hr : PartsRel β σ w Z ps vs) (hy : vbuild P t ps = some y) :
    ∃ v, (Instr.build t vs.toArray).run P w = .ok v w ∧ VRel β σ w Z y v := by
  unfold vbuild at hy
  split at hy
  · rename_i place z hp hz
    cases hf : vfill place ps (z.cells.toList.map pvC) with
    | none => simp [hf] at hy
    | some r =>
      simp [hf] at hy; subst hy
      obtain ⟨cells', h1, h2⟩ := vfill_rel ps vs _ z.cells.toList r hr ⟨by simp, fun j x v hj hv => by
        rw [List.getElem?_map, hv] at hj; simp at hj; subst hj; exact pvC_rel v⟩ hf
      exact ⟨_, placesP_run hp hz vs (by simpa using h1), .agg _ _ h2.1 h2.2⟩
  · simp at hy
end
end Go.VL
namespace Go.VL
open Go

def PV.plain : PV → Option D
  | .d y => some y
  | _ => none
def toD0 : PV → Option D
  | .d x => some x
  | .agg c => (c.mapM PV.plain).map .agg
  | _ => none

def vun (op : UnOp) (x : PV) : Option PV :=
  match op, x with
  | .neg, .d (.int k n) => some (.d (.int k (k.wrap (0 - n))))
  | .xor, .d (.int k n) => some (.d (.int k (k.wrap (BitVec.ofInt k.bits (if k.signed then -1 else k.max) ^^^ BitVec.ofInt k.bits n).toNat)))
  | .neg, .d (.flt b) => some (.d (.flt (Op.negFloat .f64 b)))
  | .not, .d (.bool b) => some (.d (.bool !b))
  | _, _ => none

def vconvert (P : Program) (src dst : TypeId) (x : PV) : Option PV :=
  if (P.underlying src).isSome then
    match P.underlying dst, x with
    | some (.int k), .d (.int _ n) => some (.d (.int k (k.wrap n)))
    | some (.float .f64), .d (.int _ n) => some (.d (.flt (FloatKind.f64.nearest n)))
    | some .string, .d (.str s) => some (.d (.str s))
    | _, _ => none
  else none

def vassert (P : Program) (x : PV) (a : TypeId) (ok : Bool) : Option PV :=
  match P.underlying a with
  | some (.interface _) => none
  | none => none
  | some _ => match x with
    | .d (.ifc t v) => if t = a then some (if ok then .tup [.d v, .d (.bool true)] else .d v) else if ok then (vzero P a).map fun z => .tup [z, .d (.bool false)] else none
    | .d .nili => if ok then (vzero P a).map fun z => .tup [z, .d (.bool false)] else none
    | _ => none

def vfield (P : Program) (t : TypeId) (x : PV) (f : Nat) : Option PV :=
  match P.underlying t, x.cells with
  | some (.struct fs), some c => match fs[f]? with
    | some fl => match kndP P fl.type with
      | some (some n) => if fl.offset + n ≤ c.length then (match x with | .agg _ | .d (.agg _) => some (.agg ((c.drop fl.offset).take n)) | _ => none) else none
      | some none => match x with | .agg _ | .d (.agg _) => c[fl.offset]? | _ => none
      | none => none
    | none => none
  | _, _ => none

def vlen (P : Program) (σ : St) (t : TypeId) (x : PV) : Option PV :=
  match P.underlying t, x with
  | some .string, .d (.str s) => some (.d (.int .i64 s.length))
  | some (.slice _), .d (.fz l) => some (.d (.int .i64 l.length))
  | some (.slice _), .nil => some (.d (.int .i64 0))
  | some (.slice _), .nz => some (.d (.int .i64 0))
  | some (.slice _), .sl id g _ n => match σ[id]? with
    | some o => if o.gen = g ∧ o.alive = true then some (.d (.int .i64 n)) else none
    | none => none
  | some (.array n _), .any => some (.d (.int .i64 n))
  | some (.array n _), .agg _ => some (.d (.int .i64 n))
  | _, _ => none

def vbuiltin (P : Program) (σ : St) (b : Builtin) (tys : Array TypeId) (args : List PV) : Option (PV × St) :=
  match b, tys.toList, args with
  | .len, [t], [x] => (vlen P σ t x).map fun y => (y, σ)
  | .append, [t, u], [s, x] => vappend P σ t u s x
  | .max, _, [.d (.int k a), .d (.int _ b)] => some (.d (.int k (if b > a then b else a)), σ)
  | .min, _, [.d (.int k a), .d (.int _ b)] => some (.d (.int k (if b < a then b else a)), σ)
  | _, _, _ => none

/-- What an operation that calls no Go function comes to. -/
def vop (P : Program) (m : Nat) (σ : St) (ρ : Operand → PV) : Op → Option (PV × St)
  | .move x => some (ρ x, σ)
  | .assign x => some (ρ x, σ)
  | .pick c a b => match ρ c with
    | .d (.bool t) => some (if t then ρ a else ρ b, σ)
    | _ => none
  | .alloc t => match vzero P t with
    | some z => z.cells.map fun c => (.ptr σ.length 0 0 0, σ ++ [.box true 0 c])
    | none => none
  | .box _ x => (ρ x).cells.map fun c => (.ptr σ.length 0 0 0, σ ++ [.box true 0 c])
  | .build t parts => (vbuild P t (parts.toList.map fun p => (p.1, ρ p.2))).map fun x => (x, σ)
  | .buildSlice t len parts => vbuildSlice P m σ t len (parts.toList.map fun p => (p.1, ρ p.2))
  | .load t a => (vload P σ t (ρ a)).map fun x => (x, σ)
  | .store t a x => (vstore P m σ t (ρ a) (ρ x)).map fun σ' => (.any, σ')
  | .nilCheck x => match nilness σ (ρ x), nilPtr (ρ x) with
    | some false, true => some (ρ x, σ)
    | _, _ => none
  | .binOp op t x y _ => match ρ y with
    | .nil => (vsnil P σ op t (ρ x)).map fun r => (.d r, σ)
    | .d .nilp => (vnil P σ op t (ρ x) true).map fun r => (.d r, σ)
    | .d .nili => if isConstO y then (vnil P σ op t (ρ x) false).map fun r => (.d r, σ) else none
    | y' => (vbin P op t (ρ x) y').map fun r => (.d r, σ)
  | .unOp op _ x => (vun op (ρ x)).map fun r => (r, σ)
  | .convert src dst x => (vconvert P src dst (ρ x)).map fun r => (r, σ)
  | .makeInterface t x => match P.underlying t with
    | some (.interface _) => none
    | some _ => (toD0 (ρ x)).map fun y => (.d (.ifc t y), σ)
    | none => none
  | .makeFunc f a b => some (.fn f (a.toList.map ρ) (b.toList.map ρ), σ)
  | .makeSlice t l c => vmake P σ t (ρ l) (ρ c)
  | .slice t x lo hi none => (vslice P t (ρ x) (lo.map ρ) (hi.map ρ)).map fun r => (r, σ)
  | .fieldAddr s x f => match ρ x with
    | .ptr _ _ _ _ => if nilness σ (ρ x) = some false then (vfieldAddr P s (ρ x) f).map fun r => (r, σ) else none
    | _ => (vfieldAddr P s (ρ x) f).map fun r => (r, σ)
  | .field t x f => (vfield P t (ρ x) f).map fun r => (r, σ)
  | .indexAddr t x i => (vindexAddr P σ t (ρ x) (ρ i)).map fun r => (r, σ)
  | .index t x i => (vindex P t (ρ x) (ρ i)).map fun r => (r, σ)
  | .typeAssert x _ a ok => (vassert P (ρ x) a ok).map fun r => (r, σ)
  | .extract x i => match ρ x with
    | .tup l => l[i]?.map fun r => (r, σ)
    | _ => none
  | .call c => match c.callee with
    | .builtin b => vbuiltin P σ b c.argTypes (c.args.toList.map ρ)
    | _ => none
  | _ => none

section
variable {P : Program} {B : Base} {β : Bt} {σ : St} {w : World} {Z : Nat → Prop}

theorem toD0_rel {x : PV} {v : Value} {y : D} (h : toD0 x = some y) (hv : VRel β σ w Z x v) : DRel w Z y v := by
  cases hv with
  | d x v hd => simp [toD0] at h; subst h; exact hd
  | agg c vs hn hr =>
    simp only [toD0] at h
    cases hm : (c.mapM PV.plain) with
    | none => simp [hm] at h
    | some r =>
      simp [hm] at h; subst h
      obtain ⟨h1, h2⟩ := mapM_some hm
      refine .agg _ _ (by omega) (fun j y u hj hu => ?_)
      have hjc : j < c.length := by rw [h1]; exact get_lt hj
      have h3 := h2 j _ y (List.getElem?_eq_getElem hjc) hj
      have h4 := hr j _ u (List.getElem?_eq_getElem hjc) hu
      unfold PV.plain at h3
      split at h3
      · rename_i z hz
        cases h3; rw [hz] at h4
        cases h4; assumption
      · simp at h3
  | _ => simp [toD0] at h

theorem vun_run {op : UnOp} {x y : PV} {v : Value} (hv : VRel β σ w Z x v) (h : vun op x = some y) : ∃ u, (Op.unary op v).run P w = .ok u w ∧ VRel β σ w Z y u := by
  cases hv with
  | d x v hd =>
    cases hd with
    | int k n =>
      cases op <;> simp only [vun, Option.some.injEq, reduceCtorEq] at h <;> subst h
      · exact ⟨_, rfl, .d _ _ (.int _ _)⟩
      · exact ⟨_, rfl, .d _ _ (.int _ _)⟩
    | flt b => cases op <;> simp [vun] at h; subst h; exact ⟨_, rfl, .d _ _ (.flt _)⟩
    | bool b => cases op <;> simp [vun] at h; subst h; exact ⟨_, rfl, .d _ _ (.bool _)⟩
    | _ => cases op <;> simp [vun] at h
  | _ => cases op <;> simp [vun] at h

theorem vconvert_run {src dst : TypeId} {x y : PV} {v : Value} (hv : VRel β σ w Z x v) (h : vconvert P src dst x = some y) : ∃ u, (convert src dst v).run P w = .ok u w ∧ VRel β σ w Z y u := by
  unfold vconvert at h
  split at h
  · rename_i hs
    obtain ⟨ds, hds⟩ := Option.isSome_iff_exists.1 hs
    split at h
    · rename_i k k' n hu
      cases h
      cases hv with
      | d _ _ hd => cases hd; exact ⟨.int k (k.wrap n), by simp [convert, run_underlying hds, run_underlying hu, Conv.intToInt], .d _ _ (.int _ _)⟩
    · rename_i k' n hu
      cases h
      cases hv with
      | d _ _ hd => cases hd; exact ⟨_, run_convert_int_float w src dst _ _ _ hs hu, .d _ _ (.flt _)⟩
    · rename_i s hu
      cases h
      cases hv with
      | d _ _ hd =>
        cases hd with
        | str l bs hl => exact ⟨.string bs, by simp [convert, run_underlying hds, run_underlying hu], .d _ _ (.str _ _ hl)⟩
    · simp at h
  · simp at h

theorem vassert_run {x y : PV} {v : Value} {xt a : TypeId} {ok : Bool} (hv : VRel β σ w Z x v) (h : vassert P x a ok = some y) : ∃ u, (Instr.typeAssert v xt a ok).run P w = .ok u w ∧ VRel β σ w Z y u := by
  have two : ∀ {x1 x2 : PV} {v1 v2 : Value}, VRel β σ w Z x1 v1 → VRel β σ w Z x2 v2 → VRel β σ w Z (.tup [x1, x2]) (.tuple #[v1, v2]) := by
    intro x1 x2 v1 v2 h1 h2
    refine .tup [x1, x2] [v1, v2] rfl (fun j x v hj hv => ?_)
    match j with
    | 0 => simp at hj hv; subst hj; subst hv; exact h1
    | 1 => simp at hj hv; subst hj; subst hv; exact h2
    | j + 2 => simp at hj
  have fails : ∀ {z : PV} {s d : Option TypeId} {mi : String}, vzero P a = some z → ∃ zv, (zeroValue a).run P w = .ok zv w ∧ VRel β σ w Z z zv := fun hz => vzero_run hz
  unfold vassert at h
  split at h
  · simp at h
  · simp at h
  · rename_i d hni hu
    have hd' : ∀ ms, d ≠ .interface ms := fun ms e => hni ms e
    split at h
    · rename_i t v'
      cases hv with
      | d _ _ hd =>
        cases hd with
        | ifc _ _ u hu' =>
          split at h
          · rename_i hta
            subst hta
            cases ok with
            | true => simp at h; subst h; refine ⟨_, ?_, two (.d _ _ hu') (.d _ _ (.bool true))⟩; cases d <;> first | exact absurd rfl (hd' _) | simp [Instr.typeAssert, run_underlying hu]
            | false => simp at h; subst h; refine ⟨_, ?_, .d _ _ hu'⟩; cases d <;> first | exact absurd rfl (hd' _) | simp [Instr.typeAssert, run_underlying hu]
          · rename_i hta
            cases ok with
            | true =>
              cases hz : vzero P a with
              | none => simp [hz] at h
              | some z =>
                simp [hz] at h; subst h
                obtain ⟨zv, hzr, hzv⟩ := vzero_run (β := β) (σ := σ) (w := w) (Z := Z) hz
                refine ⟨_, ?_, two hzv (.d _ _ (.bool false))⟩
                cases d <;> first | exact absurd rfl (hd' _) | simp [Instr.typeAssert, run_underlying hu, hta, hzr]
            | false => simp at h
    · cases hv with
      | d _ _ hd =>
        cases hd
        cases ok with
        | true =>
          cases hz : vzero P a with
          | none => simp [hz] at h
          | some z =>
            simp [hz] at h; subst h
            obtain ⟨zv, hzr, hzv⟩ := vzero_run (β := β) (σ := σ) (w := w) (Z := Z) hz
            refine ⟨_, ?_, two hzv (.d _ _ (.bool false))⟩
            cases d <;> first | exact absurd rfl (hd' _) | simp [Instr.typeAssert, run_underlying hu, hzr]
        | false => simp at h
    · simp at h
end
end Go.VL
namespace Go.VL
open Go

section
variable {P : Program} {B : Base} {β : Bt} {σ : St} {w : World} {Z : Nat → Prop}

theorem vfield_run {t : TypeId} {x y : PV} {v : Value} {f : Nat} (hv : VRel β σ w Z x v) (h : vfield P t x f = some y) : ∃ u, (Instr.field t v f).run P w = .ok u w ∧ VRel β σ w Z y u := by
  unfold vfield at h
  split at h
  · rename_i fs c hu hc
    split at h
    · rename_i fl hfl
      obtain ⟨vs, hcs, hr⟩ := cells_rel hv hc
      have agg : ∀ {y : PV}, (match x with | .agg _ => some y | .d (.agg _) => some y | _ => none : Option PV) = some y → v = .agg vs.toArray := by
        intro y hy
        cases hv with
        | agg c vs' hn hr' => simp [Value.cells] at hcs; rw [hcs]
        | d x v hd => cases hd <;> simp at hy; simp [Value.cells] at hcs; rw [hcs]
        | _ => simp at hy
      split at h
      · rename_i n hk
        obtain ⟨h1, h2⟩ := kndP_agg (w := w) hk
        split at h
        · rename_i hfit
          have hva : v = .agg vs.toArray ∧ y = .agg ((c.drop fl.offset).take n) := by
            split at h
            · cases h; exact ⟨agg (y := .any) rfl, rfl⟩
            · cases h; exact ⟨agg (y := .any) rfl, rfl⟩
            · simp at h
          obtain ⟨rfl, rfl⟩ := hva
          refine ⟨.agg ((vs.drop fl.offset).take n).toArray, ?_, .agg _ _ ?_ ?_⟩
          · simp [Instr.field, run_underlying hu, hfl, asAgg, part, h1, h2, List.extract_eq_take_drop]
          · have := hr.1; simp; omega
          · intro j x v hj hv
            rw [List.getElem?_take] at hj hv
            split at hj
            · rw [if_pos (by assumption)] at hv
              rw [List.getElem?_drop] at hj hv
              exact hr.2 _ x v hj hv
            · simp at hj
        · simp at h
      · rename_i hk
        have h1 := kndP_sc (w := w) hk
        have hva : v = .agg vs.toArray ∧ c[fl.offset]? = some y := by
          split at h
          · exact ⟨agg (y := .any) rfl, h⟩
          · exact ⟨agg (y := .any) rfl, h⟩
          · simp at h
        obtain ⟨rfl, hy⟩ := hva
        have hlt : fl.offset < vs.length := by rw [← hr.1]; exact get_lt hy
        refine ⟨vs[fl.offset], ?_, hr.2 _ y _ hy (List.getElem?_eq_getElem hlt)⟩
        simp [Instr.field, run_underlying hu, hfl, asAgg, part, h1, hlt]
      · simp at h
    · simp at h
  · simp at h

theorem vlen_run {t ty : TypeId} {x y : PV} {v : Value} (hv : VRel β σ w Z x v) (h : vlen P σ t x = some y) : ∃ u, (Builtin.len_ #[t] ty #[v]).run P w = .ok u w ∧ VRel β σ w Z y u := by
  unfold vlen at h
  split at h
  · rename_i s hu
    cases h
    cases hv with
    | d _ _ hd =>
      cases hd with
      | str l bs hl =>
        subst hl
        refine ⟨.int .i64 bs.size, by simp [Builtin.len_, run_underlying hu, goInt], .d _ _ ?_⟩
        rw [← size_len bs]; exact .int _ _
  · rename_i l hu
    cases h
    cases hv with
    | d _ _ hd =>
      cases hd with
      | fz0 a cap => exact ⟨.int .i64 0, by simp [Builtin.len_, run_underlying hu, goInt], .d _ _ (.int _ _)⟩
      | fz l b off cap sz f hcap hsz hz hc hr => exact ⟨.int .i64 l.length, by simp [Builtin.len_, run_underlying hu, goInt], .d _ _ (.int _ _)⟩
  · rename_i hu
    cases h; cases hv
    exact ⟨.int .i64 0, by simp [Builtin.len_, run_underlying hu, goInt], .d _ _ (.int _ _)⟩
  · rename_i hu
    cases h; cases hv
    exact ⟨.int .i64 0, by simp [Builtin.len_, run_underlying hu, goInt], .d _ _ (.int _ _)⟩
  · rename_i id g s n hu
    split at h
    · rename_i o ho
      split at h
      · rename_i hc
        cases h
        cases hv with
        | sl _ _ _ _ a m c o' ho' hg hp =>
          rw [ho] at ho'; cases ho'
          have hpl := hp hc.1 hc.2
          have hm : m = n := by
            cases hq : β id with
            | none => rw [hq] at hpl; obtain ⟨_, h1, h2⟩ := hpl; cases h2; exact h1.symm
            | some q => rw [hq] at hpl; obtain ⟨cap, h2, _⟩ := hpl; cases h2; rfl
          subst hm
          exact ⟨.int .i64 m, by simp [Builtin.len_, run_underlying hu, goInt], .d _ _ (.int _ _)⟩
      · simp at h
    · simp at h
  · rename_i n e hu
    cases h
    exact ⟨.int .i64 n, by simp [Builtin.len_, run_underlying hu, goInt], .d _ _ (.int _ _)⟩
  · rename_i n e c hu
    cases h
    exact ⟨.int .i64 n, by simp [Builtin.len_, run_underlying hu, goInt], .d _ _ (.int _ _)⟩
  · simp at h

theorem list1 {α : Type} {l : List α} {x : α} (h : l = [x]) (a : Array α) (ha : a.toList = l) : a = #[x] := by
  subst h; apply Array.ext'; simpa using ha

theorem vbuiltin_run (h : WR B β σ w) {b : Builtin} {tys : Array TypeId} {ty : TypeId} {args : List PV} {vs : List Value} {y : PV} {σ' : St} (hv : VRelL β σ w (Zc B β σ w) args vs)
    (hy : vbuiltin P σ b tys args = some (y, σ')) :
    ∃ v w' β', (∀ cs, (builtin b tys ty cs vs.toArray).run P w = .ok (.value v) w') ∧ Mv B β σ w β' σ' w' ∧ VRel β' σ' w' (Zc B β' σ' w') y v := by
  unfold vbuiltin at hy
  split at hy
  · rename_i t x ht
    have hts := list1 ht tys rfl
    subst hts
    obtain ⟨hl, hr⟩ := hv
    obtain ⟨v, rfl⟩ : ∃ v, vs = [v] := by
      cases vs with
      | nil => simp at hl
      | cons v vs => cases vs with
        | nil => exact ⟨v, rfl⟩
        | cons => simp at hl
    cases hln : vlen P σ t x with
    | none => simp [hln] at hy
    | some y' =>
      simp [hln] at hy
      obtain ⟨rfl, rfl⟩ := hy
      obtain ⟨u, h1, h2⟩ := vlen_run (ty := ty) (hr 0 x v rfl rfl) hln
      exact ⟨u, w, β, fun cs => by simp [builtin, h1], Mv.refl h, h2⟩
  · rename_i t u s x ht
    have hts : tys = #[t, u] := by apply Array.ext'; simpa using ht
    subst hts
    obtain ⟨hl, hr⟩ := hv
    obtain ⟨v, v', rfl⟩ : ∃ v v', vs = [v, v'] := by
      match vs, hl with
      | [v, v'], _ => exact ⟨v, v', rfl⟩
    obtain ⟨v'', w', β', h1, h2, h3⟩ := vappend_run (P := P) (ty := ty) h (hr 0 s v rfl rfl) (hr 1 x v' rfl rfl) hy
    exact ⟨v'', w', β', fun cs => by simp [builtin, h1], h2, h3⟩
  · rename_i k a k' c
    cases hy
    obtain ⟨hl, hr⟩ := hv
    obtain ⟨v, v', rfl⟩ : ∃ v v', vs = [v, v'] := by
      match vs, hl with
      | [v, v'], _ => exact ⟨v, v', rfl⟩
    have h1 := hr 0 _ v rfl rfl
    have h2 := hr 1 _ v' rfl rfl
    cases h1 with
    | d _ _ hd1 =>
      cases hd1
      cases h2 with
      | d _ _ hd2 =>
        cases hd2
        exact ⟨_, w, β, fun cs => by simp [builtin, Builtin.max_, Builtin.max2], Mv.refl h, .d _ _ (.int _ _)⟩
  · rename_i k a k' c
    cases hy
    obtain ⟨hl, hr⟩ := hv
    obtain ⟨v, v', rfl⟩ : ∃ v v', vs = [v, v'] := by
      match vs, hl with
      | [v, v'], _ => exact ⟨v, v', rfl⟩
    have h1 := hr 0 _ v rfl rfl
    have h2 := hr 1 _ v' rfl rfl
    cases h1 with
    | d _ _ hd1 =>
      cases hd1
      cases h2 with
      | d _ _ hd2 =>
        cases hd2
        exact ⟨_, w, β, fun cs => by simp [builtin, Builtin.min_, Builtin.min2], Mv.refl h, .d _ _ (.int _ _)⟩
  · simp at hy

theorem mapL_rel {ρ : Operand → PV} {ρ' : Operand → Value} (hρ : ∀ x, VRel β σ w Z (ρ x) (ρ' x)) (l : List Operand) : VRelL β σ w Z (l.map ρ) (l.map ρ') := by
  refine ⟨by simp, fun j x v hx hv => ?_⟩
  rw [List.getElem?_map] at hx hv
  cases h : l[j]? with
  | none => simp [h] at hx
  | some o => simp [h] at hx hv; subst hx; subst hv; exact hρ o
theorem mapP_rel {ρ : Operand → PV} {ρ' : Operand → Value} (hρ : ∀ x, VRel β σ w Z (ρ x) (ρ' x)) (l : List (Nat × Operand)) : PartsRel β σ w Z (l.map fun p => (p.1, ρ p.2)) (l.map fun p => (p.1, ρ' p.2)) := by
  refine ⟨by simp, fun j x v hx hv => ?_⟩
  rw [List.getElem?_map] at hx hv
  cases h : l[j]? with
  | none => simp [h] at hx
  | some o => simp [h] at hx hv; subst hx; subst hv; exact ⟨rfl, hρ _⟩

theorem vop_sound (h : WR B β σ w) {o : Oper} {ρ : Operand → PV} {ρ' : Operand → Value} (hρ : ∀ x, VRel β σ w (Zc B β σ w) (ρ x) (ρ' x)) {y : PV} {σ' : St} (hy : vop P B.σ.length σ ρ o.op = some (y, σ')) :
    Runs P B β σ w o ρ' y σ' := by
  have pure1 : ∀ {y' : PV}, (∃ v, (execOp ρ' o).run P w = .ok (.value v) w ∧ VRel β σ w (Zc B β σ w) y' v) → y' = y → σ = σ' → Runs P B β σ w o ρ' y σ' := by
    rintro y' ⟨v, h1, h2⟩ rfl rfl
    exact ⟨v, w, β, .inl h1, Mv.refl h, h2⟩
  obtain ⟨dst, op, type, pos, after, guard⟩ := o
  simp only at hy
  cases op with
  | move x => simp [vop] at hy; exact pure1 ⟨_, rfl, hρ x⟩ hy.1 hy.2
  | assign x => simp [vop] at hy; exact pure1 ⟨_, rfl, hρ x⟩ hy.1 hy.2
  | pick c a b =>
    simp only [vop] at hy
    split at hy
    · rename_i t hc
      simp at hy
      have hcv := hρ c
      rw [hc] at hcv
      generalize hcv' : ρ' c = cv at hcv
      cases hcv with
      | d _ _ hd =>
        cases hd
        refine pure1 ⟨if t then ρ' a else ρ' b, ?_, ?_⟩ hy.1 hy.2
        · cases t <;> simp [execOp, hcv', asBool]
        · cases t <;> simp [hρ]
    · simp at hy
  | alloc t =>
    simp only [vop] at hy
    split at hy
    · rename_i z hz
      cases hc : z.cells with
      | none => simp [hc] at hy
      | some c =>
        simp [hc] at hy
        obtain ⟨rfl, rfl⟩ := hy
        obtain ⟨zv, hzr, hzv⟩ := vzero_run (β := β) (σ := σ) (w := w) (Z := Zc B β σ w) hz
        obtain ⟨r, w', β', h1, h2, h3⟩ := newVar_run (P := P) h t hzv hc
        exact ⟨_, w', β', .inl (by simp [execOp, Instr.alloc, hzr, h1]), h2, h3⟩
    · simp at hy
  | box t x =>
    simp only [vop] at hy
    cases hc : (ρ x).cells with
    | none => simp [hc] at hy
    | some c =>
      simp [hc] at hy
      obtain ⟨rfl, rfl⟩ := hy
      obtain ⟨r, w', β', h1, h2, h3⟩ := newVar_run (P := P) h t (hρ x) hc
      exact ⟨_, w', β', .inl (by simp [execOp, Instr.box, h1]), h2, h3⟩
  | build t parts =>
    simp only [vop] at hy
    cases hb : vbuild P t (parts.toList.map fun p => (p.1, ρ p.2)) with
    | none => simp [hb] at hy
    | some r =>
      simp [hb] at hy
      obtain ⟨v, h1, h2⟩ := vbuild_run (mapP_rel hρ parts.toList) hb
      refine pure1 ⟨v, ?_, h2⟩ hy.1 hy.2
      have e : (parts.map fun p => (p.1, ρ' p.2)) = (parts.toList.map fun p => (p.1, ρ' p.2)).toArray := by apply Array.ext'; simp
      simp only [execOp]
      rw [e]; simp [h1]
  | buildSlice t len parts =>
    simp only [vop] at hy
    obtain ⟨v, w', β', h1, h2, h3⟩ := vbuildSlice_run h (mapP_rel hρ parts.toList) hy
    refine ⟨v, w', β', .inl ?_, h2, h3⟩
    have e : (parts.map fun p => (p.1, ρ' p.2)) = (parts.toList.map fun p => (p.1, ρ' p.2)).toArray := by apply Array.ext'; simp
    simp only [execOp]
    rw [e]; simp [h1]
  | load t a =>
    simp only [vop] at hy
    cases hl : vload P σ t (ρ a) with
    | none => simp [hl] at hy
    | some r =>
      simp [hl] at hy
      obtain ⟨v, h1, h2⟩ := vload_run (P := P) h (hρ a) hl
      exact pure1 ⟨v, by simp [execOp, h1], h2⟩ hy.1 hy.2
  | store t a x =>
    simp only [vop] at hy
    cases hl : vstore P B.σ.length σ t (ρ a) (ρ x) with
    | none => simp [hl] at hy
    | some s =>
      simp [hl] at hy
      obtain ⟨rfl, rfl⟩ := hy
      obtain ⟨w', h1, h2⟩ := vstore_run (P := P) h (hρ a) (hρ x) hl
      exact ⟨undef, w', β, .inr ⟨by simp [execOp, h1], rfl⟩, h2, .any _⟩
  | nilCheck x =>
    simp only [vop] at hy
    split at hy
    · rename_i hn hp
      simp at hy
      have hr := nilness_rel hn (hρ x)
      rw [hp] at hr
      simp only [if_true] at hr
      obtain ⟨a, ha, hna⟩ := hr
      cases a with
      | none => simp at hna
      | some a => exact pure1 ⟨ρ' x, by simp [execOp, ha], hρ x⟩ hy.1 hy.2
    · simp at hy
  | binOp op t x y' yt =>
    simp only [vop] at hy
    have fin : ∀ {r : D}, (∃ v, (execOp ρ' ⟨dst, .binOp op t x y' yt, type, pos, after, guard⟩).run P w = .ok (.value v) w ∧ ∀ Z, DRel w Z r v) → PV.d r = y → σ = σ' → Runs P B β σ w ⟨dst, .binOp op t x y' yt, type, pos, after, guard⟩ ρ' y σ' := by
      rintro r ⟨v, h1, h2⟩ h3 h4
      exact pure1 ⟨v, h1, .d _ _ (h2 _)⟩ h3 h4
    have hyv := hρ y'
    split at hy
    · rename_i hyn
      cases hb : vsnil P σ op t (ρ x) with
      | none => simp [hb] at hy
      | some r =>
        simp [hb] at hy
        obtain ⟨h1, h2, v, h3, h4⟩ := vsnil_val (P := P) (hρ x) hb
        rw [hyn] at hyv
        generalize hyv' : ρ' y' = yv at hyv
        cases hyv with
        | nil =>
          refine fin ⟨v, ?_, h4⟩ hy.1 hy.2
          have hg := run_eqGuard_of (P := P) (w := w) (op := op) (t := t) (x := x) (y := y') (a := ρ' x) (b := .slice none 0 0) (.inl (by simp)) (by simp)
          simp [execOp, hyv', hg, h3]
    · rename_i hyn
      cases hb : vnil P σ op t (ρ x) true with
      | none => simp [hb] at hy
      | some r =>
        simp [hb] at hy
        obtain ⟨h1, h2, v, h3, h4⟩ := vnil_val (P := P) (hρ x) hb
        rw [hyn] at hyv
        generalize hyv' : ρ' y' = yv at hyv
        cases hyv with
        | d _ _ hd =>
          cases hd
          refine fin ⟨v, ?_, h4⟩ hy.1 hy.2
          have hg := run_eqGuard_of (P := P) (w := w) (op := op) (t := t) (x := x) (y := y') (a := ρ' x) (b := .pointer none) (.inl (by simp)) (by simp)
          simp only [if_true] at h3
          simp [execOp, hyv', hg, h3]
    · rename_i hyn
      split at hy
      · rename_i hcst
        cases hb : vnil P σ op t (ρ x) false with
        | none => simp [hb] at hy
        | some r =>
          simp [hb] at hy
          obtain ⟨h1, h2, v, h3, h4⟩ := vnil_val (P := P) (hρ x) hb
          rw [hyn] at hyv
          generalize hyv' : ρ' y' = yv at hyv
          cases hyv with
          | d _ _ hd =>
            cases hd
            refine fin ⟨v, ?_, h4⟩ hy.1 hy.2
            have hg := run_eqGuard_of (P := P) (w := w) (op := op) (t := t) (x := x) (y := y') (a := ρ' x) (b := .nilIface) (.inr hcst) (by simp)
            simp only [Bool.false_eq_true, if_false] at h3
            simp [execOp, hyv', hg, h3]
      · simp at hy
    · cases hb : vbin P op t (ρ x) (ρ y') with
      | none => simp [hb] at hy
      | some r =>
        simp [hb] at hy
        obtain ⟨h1, h2, v, h3, h4⟩ := vbin_val (P := P) (hρ x) hyv hb
        refine fin ⟨v, ?_, h4⟩ hy.1 hy.2
        have hg := run_eqGuard_of (P := P) (w := w) (op := op) (t := t) (x := x) (y := y') (a := ρ' x) (b := ρ' y') (.inl h1) h2
        simp [execOp, hg, h3]
  | unOp op t x =>
    simp only [vop] at hy
    cases hl : vun op (ρ x) with
    | none => simp [hl] at hy
    | some r =>
      simp [hl] at hy
      obtain ⟨v, h1, h2⟩ := vun_run (P := P) (hρ x) hl
      exact pure1 ⟨v, by simp [execOp, h1], h2⟩ hy.1 hy.2
  | convert src d x =>
    simp only [vop] at hy
    cases hl : vconvert P src d (ρ x) with
    | none => simp [hl] at hy
    | some r =>
      simp [hl] at hy
      obtain ⟨v, h1, h2⟩ := vconvert_run (P := P) (hρ x) hl
      exact pure1 ⟨v, by simp [execOp, h1], h2⟩ hy.1 hy.2
  | makeInterface t x =>
    simp only [vop] at hy
    split at hy
    · simp at hy
    · rename_i d hni hu
      cases hl : toD0 (ρ x) with
      | none => simp [hl] at hy
      | some r =>
        simp [hl] at hy
        have h1 := toD0_rel hl (hρ x)
        have hc : P.concrete t = true := by
          unfold Program.concrete
          rw [hu]
          cases d <;> first | rfl | exact absurd rfl (hni _)
        exact pure1 ⟨.iface t (ρ' x), by simp [execOp, run_makeInterface w t (ρ' x) hc], .d _ _ (.ifc _ _ _ h1)⟩ hy.1 hy.2
    · simp at hy
  | makeFunc f a b =>
    simp only [vop, Option.some.injEq, Prod.mk.injEq] at hy
    obtain ⟨ha1, ha2⟩ := mapL_rel hρ a.toList
    obtain ⟨hb1, hb2⟩ := mapL_rel hρ b.toList
    have e1 : a.map ρ' = (a.toList.map ρ').toArray := by apply Array.ext'; simp
    have e2 : b.map ρ' = (b.toList.map ρ').toArray := by apply Array.ext'; simp
    refine pure1 ⟨.func f (a.toList.map ρ').toArray (b.toList.map ρ').toArray, ?_, .fn _ _ _ _ _ ha1 hb1 ha2 hb2⟩ hy.1 hy.2
    simp only [execOp, Instr.makeFunc, e1, e2]; rfl
  | makeSlice t l c =>
    simp only [vop] at hy
    obtain ⟨v, w', β', h1, h2, h3⟩ := vmake_run (P := P) h (hρ l) (hρ c) hy
    exact ⟨v, w', β', .inl (by simp [execOp, h1]), h2, h3⟩
  | slice t x lo hi mx =>
    cases mx with
    | some m => simp [vop] at hy
    | none =>
      simp only [vop] at hy
      cases hl : vslice P t (ρ x) (lo.map ρ) (hi.map ρ) with
      | none => simp [hl] at hy
      | some r =>
        simp [hl] at hy
        have ho : ∀ (o : Option Operand) (x : PV) (v : Value), o.map ρ = some x → o.map ρ' = some v → VRel β σ w (Zc B β σ w) x v := by
          intro o x v h1 h2
          cases o with
          | none => simp at h1
          | some o => simp at h1 h2; subst h1; subst h2; exact hρ o
        obtain ⟨v, h1, h2⟩ := vslice_run (P := P) (hρ x) (ho lo) (by cases lo <;> rfl) (ho hi) (by cases hi <;> rfl) hl
        exact pure1 ⟨v, by simp [execOp, h1], h2⟩ hy.1 hy.2
  | fieldAddr s x f =>
    simp only [vop] at hy
    have key : ∀ {r : PV}, vfieldAddr P s (ρ x) f = some r → (∀ id g i off, ρ x = .ptr id g i off → nilness σ (ρ x) = some false) → r = y → σ = σ' → Runs P B β σ w ⟨dst, .fieldAddr s x f, type, pos, after, guard⟩ ρ' y σ' := by
      intro r h1 h2 h3 h4
      obtain ⟨v, h5, h6⟩ := vfieldAddr_run (P := P) (hρ x) h1 h2
      exact pure1 ⟨v, by simp [execOp, h5], h6⟩ h3 h4
    split at hy
    · split at hy
      · rename_i hn
        cases hl : vfieldAddr P s (ρ x) f with
        | none => simp [hl] at hy
        | some r => simp [hl] at hy; exact key hl (fun _ _ _ _ _ => hn) hy.1 hy.2
      · simp at hy
    · rename_i hnp
      cases hl : vfieldAddr P s (ρ x) f with
      | none => simp [hl] at hy
      | some r => simp [hl] at hy; exact key hl (fun id g i off e => absurd e (hnp id g i off)) hy.1 hy.2
  | field t x f =>
    simp only [vop] at hy
    cases hl : vfield P t (ρ x) f with
    | none => simp [hl] at hy
    | some r =>
      simp [hl] at hy
      obtain ⟨v, h1, h2⟩ := vfield_run (P := P) (hρ x) hl
      exact pure1 ⟨v, by simp [execOp, h1], h2⟩ hy.1 hy.2
  | indexAddr t x i =>
    simp only [vop] at hy
    cases hl : vindexAddr P σ t (ρ x) (ρ i) with
    | none => simp [hl] at hy
    | some r =>
      simp [hl] at hy
      obtain ⟨v, h1, h2⟩ := vindexAddr_run (P := P) h (hρ x) (hρ i) hl
      exact pure1 ⟨v, by simp [execOp, h1], h2⟩ hy.1 hy.2
  | index t x i =>
    simp only [vop] at hy
    cases hl : vindex P t (ρ x) (ρ i) with
    | none => simp [hl] at hy
    | some r =>
      simp [hl] at hy
      obtain ⟨v, h1, h2⟩ := vindex_run (P := P) (hρ x) (hρ i) hl
      exact pure1 ⟨v, by simp [execOp, h1], h2⟩ hy.1 hy.2
  | typeAssert x xt a ok =>
    simp only [vop] at hy
    cases hl : vassert P (ρ x) a ok with
    | none => simp [hl] at hy
    | some r =>
      simp [hl] at hy
      obtain ⟨v, h1, h2⟩ := vassert_run (P := P) (xt := xt) (hρ x) hl
      exact pure1 ⟨v, by simp [execOp, h1], h2⟩ hy.1 hy.2
  | extract x i =>
    simp only [vop] at hy
    split at hy
    · rename_i l hx
      cases hl : l[i]? with
      | none => simp [hl] at hy
      | some r =>
        simp [hl] at hy
        have hv := hρ x
        rw [hx] at hv
        generalize hv' : ρ' x = v at hv
        cases hv with
        | tup _ vs hn hr =>
          have hlt : i < vs.length := by rw [← hn]; exact get_lt hl
          exact pure1 ⟨vs[i], by simp [execOp, hv', Instr.extract, hlt], hr i r _ hl (List.getElem?_eq_getElem hlt)⟩ hy.1 hy.2
    · simp at hy
  | call c =>
    simp only [vop] at hy
    split at hy
    · rename_i b hb
      obtain ⟨v, w', β', h1, h2, h3⟩ := vbuiltin_run (P := P) (ty := type) h (mapL_rel hρ c.args.toList) hy
      refine ⟨v, w', β', .inl ?_, h2, h3⟩
      have e : c.args.map ρ' = (c.args.toList.map ρ').toArray := by apply Array.ext'; simp
      obtain ⟨callee, cargs, ctys⟩ := c
      simp only at hb; subst hb
      simp only [execOp, resolve, invoke] at h1 ⊢
      simp only at e
      rw [e]
      simp only [pure_bind]
      exact h1 _
    · simp at hy
  | _ => simp [vop] at hy
end
end Go.VL
