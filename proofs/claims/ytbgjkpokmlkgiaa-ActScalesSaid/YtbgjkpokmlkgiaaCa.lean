/- How a step goes on: float after float, worked out. -/
import Derived.KernelRfl
import Derived.Test.YtbgjkpokmlkgiaaBc
namespace Go.VL
open Go
def force {α : Type} (n : Nat) (f : Nat → α) : α := match n with
  | 0 => f 0
  | k + 1 => f (k + 1)
theorem force_eq {α : Type} (n : Nat) (f : Nat → α) : force n f = f n := by cases n <;> rfl
/-- One decay: the first value, the step; none: not as it should be. -/
def nxS (v s : Nat) (k : Nat → Nat → Option (Nat × Nat)) : Option (Nat × Nat) :=
  match FloatKind.f64.format.mul s 4607463893776728064 with
  | none => none
  | some t => force t fun t => if t ≤ 5958262307011166208 then (if v < t then k v t else none) else if 9218868437227405312 < t then none else
      match FloatKind.f64.format.mul t 3256102530588868608, FloatKind.f64.format.mul v 3256102530588868608 with
      | some t', some v' => force t' fun t' => force v' fun v' => if t' ≤ 5958262307011166208 ∧ v' < t' then k v' t' else none
      | _, _ => none
def goS : Nat → Nat → Nat → Option (Nat × Nat)
  | 0, v, s => some (v, s)
  | n + 1, v, s => nxS v s (goS n)
theorem nxS_congr {v s : Nat} {k k' : Nat → Nat → Option (Nat × Nat)} {r : Nat × Nat} (h : nxS v s k = some r) (hk : ∀ v s r, k v s = some r → ∃ r', k' v s = some r') : ∃ r', nxS v s k' = some r' := by
  unfold nxS at h ⊢
  simp only [force_eq] at h ⊢
  split at h
  · simp at h
  · split at h
    · rename_i h1
      rw [if_pos h1]
      split at h
      · rename_i h2; rw [if_pos h2]; exact hk _ _ _ h
      · simp at h
    · rename_i h1
      rw [if_neg h1]
      split at h
      · simp at h
      · rename_i h2
        rw [if_neg h2]
        split at h
        · split at h
          · rename_i h3; rw [if_pos h3]; exact hk _ _ _ h
          · simp at h
        · simp at h
theorem goS_less : ∀ (n m : Nat) (v s : Nat) (r : Nat × Nat), n ≤ m → goS m v s = some r → ∃ r', goS n v s = some r'
  | 0, m, v, s, r, _, _ => ⟨(v, s), rfl⟩
  | n + 1, 0, v, s, r, h, _ => by omega
  | n + 1, m + 1, v, s, r, h, hr => nxS_congr (k := goS m) (k' := goS n) hr fun v s r h' => goS_less n m v s r (by omega) h'
theorem nxS_inv {v s : Nat} {k : Nat → Nat → Option (Nat × Nat)} {r : Nat × Nat} (h : nxS v s k = some r) :
    ∃ t, FloatKind.f64.format.mul s 4607463893776728064 = some t ∧ ((t ≤ 5958262307011166208 ∧ v < t ∧ k v t = some r) ∨
      (5958262307011166208 < t ∧ t ≤ 9218868437227405312 ∧ ∃ t' v', FloatKind.f64.format.mul t 3256102530588868608 = some t' ∧ FloatKind.f64.format.mul v 3256102530588868608 = some v' ∧ t' ≤ 5958262307011166208 ∧ v' < t' ∧ k v' t' = some r)) := by
  unfold nxS at h
  simp only [force_eq] at h
  split at h
  · simp at h
  · rename_i t ht
    refine ⟨t, ht, ?_⟩
    split at h
    · rename_i h1
      split at h
      · rename_i h2; exact .inl ⟨h1, h2, h⟩
      · simp at h
    · rename_i h1
      split at h
      · simp at h
      · rename_i h2
        split at h
        · rename_i t' v' h3 h4
          split at h
          · rename_i h5; exact .inr ⟨by omega, by omega, t', v', h3, h4, h5.1, h5.2, h⟩
          · simp at h
        · simp at h
theorem goS_join {n m v s : Nat} {a r : Nat × Nat} (h : goS n v s = some a) (h' : goS m a.1 a.2 = some r) : goS (n + m) v s = some r := by
  induction n generalizing v s with
  | zero => simp [goS] at h; subst h; rw [Nat.zero_add]; exact h'
  | succ n ih =>
    rw [show n + 1 + m = (n + m) + 1 by omega]
    have h0 : nxS v s (goS n) = some a := h
    show nxS v s (goS (n + m)) = some r
    obtain ⟨t, ht, hc⟩ := nxS_inv h0
    unfold nxS
    rw [ht]
    simp only [force_eq]
    rcases hc with ⟨h1, h2, h3⟩ | ⟨h1, h2, t', v', h3, h4, h5, h6, h7⟩
    · rw [if_pos h1, if_pos h2]; exact ih h3
    · rw [if_neg (by omega), if_neg (by omega), h3, h4]
      simp only
      rw [if_pos ⟨h5, h6⟩]; exact ih h7
end Go.VL
set_option maxRecDepth 100000
namespace Go.VL
open Go
theorem go0 : goS 500 4607182418800017408 4607182418800017408 = some (4607182418800017408, 4803810808742452677) := by kernel_rfl
theorem go1 : goS 500 4607182418800017408 4803810808742452677 = some (4607182418800017408, 5000699088639483962) := by kernel_rfl
theorem go2 : goS 500 4607182418800017408 5000699088639483962 = some (4607182418800017408, 5197803112694835512) := by kernel_rfl
theorem go3 : goS 500 4607182418800017408 5197803112694835512 = some (4607182418800017408, 5394860114146397045) := by kernel_rfl
theorem go4 : goS 500 4607182418800017408 5394860114146397045 = some (4607182418800017408, 5591565323026946892) := by kernel_rfl
theorem go5 : goS 500 4607182418800017408 5591565323026946892 = some (4607182418800017408, 5788517373134613462) := by kernel_rfl
theorem go6 : goS 500 4607182418800017408 5788517373134613462 = some (3256102530588868608, 4634594446963436688) := by kernel_rfl
theorem go7 : goS 500 3256102530588868608 4634594446963436688 = some (3256102530588868608, 4831480627620017246) := by kernel_rfl
theorem go8 : goS 500 3256102530588868608 4831480627620017246 = some (3256102530588868608, 5028258798462407748) := by kernel_rfl
theorem go9 : goS 500 3256102530588868608 5028258798462407748 = some (3256102530588868608, 5225271416963612955) := by kernel_rfl
theorem go10 : goS 500 3256102530588868608 5225271416963612955 = some (3256102530588868608, 5422478659042708148) := by kernel_rfl
theorem go11 : goS 500 3256102530588868608 5422478659042708148 = some (3256102530588868608, 5619202595588254458) := by kernel_rfl
theorem go12 : goS 500 3256102530588868608 5619202595588254458 = some (3256102530588868608, 5816050065069838568) := by kernel_rfl
theorem go13 : goS 500 3256102530588868608 5816050065069838568 = some (1905022642377719808, 4662040322695296632) := by kernel_rfl
theorem go14 : goS 500 1905022642377719808 4662040322695296632 = some (1905022642377719808, 4859206642707056456) := by kernel_rfl
theorem go15 : goS 500 1905022642377719808 4859206642707056456 = some (1905022642377719808, 5055865158814524722) := by kernel_rfl
theorem go16 : goS 500 1905022642377719808 5055865158814524722 = some (1905022642377719808, 5252778447543192310) := by kernel_rfl
theorem go17 : goS 500 1905022642377719808 5252778447543192310 = some (1905022642377719808, 5449903232344530894) := by kernel_rfl
theorem go18 : goS 500 1905022642377719808 5449903232344530894 = some (1905022642377719808, 5646893242822421505) := by kernel_rfl
theorem go19 : goS 500 1905022642377719808 5646893242822421505 = some (1905022642377719808, 5843627065273498231) := by kernel_rfl
end Go.VL
