/- ActPlays returns true, whatever the input; its arguments read as they did: no condition. -/
import Derived.Test.YtbgjkpokmlkgiaaRows
import Derived.ProofKit
import Derived.Test.YtbgjkpokmlkgiaaDc
import Derived.Test.YtbgjkpokmlkgiaaB
set_option maxRecDepth 10000
namespace Go.VL.Try
open Go Go.VL Go.Proofs
theorem plays_loop (l : List PC) (hl : l.length ≤ 60) (hv : ∀ c ∈ l, c.bits < 18446744073709551616 ∧ c.n < 256) : ∀ (k i : Nat) (fs : List Nat) (s : Nat), WF fs s → i + k = l.length →
    (∃ env fs' s', WF fs' s' ∧ env 5 = .ptr 0 0 0 0 ∧ env 7 = .ptr 1 0 0 0 ∧ Lb Try.prog HT 5 0 (lpc Try.prog 5 0) (HD l i fs s) = some (.exit 0, ⟨env, [], PO fs' s'⟩)) ∨
    (∃ env σ, env 4 = .d (.bool true) ∧ Lb Try.prog HT 5 0 (lpc Try.prog 5 0) (HD l i fs s) = some (.ret, ⟨env, [], σ⟩)) := by
  intro k
  induction k with
  | zero =>
    intro i fs s h hi
    have hi : i = l.length := by omega
    subst hi
    refine .inl ⟨_, fs, s, h, ?_, ?_, by unfold HD; rw [Lb_lp Try.func5]; simp [PO, lpd, loopsIn, Try.f5]; rfl⟩ <;> simp
  | succ k ih =>
    intro i fs s h hi
    have hlt : i < l.length := by omega
    obtain ⟨h1, h2⟩ := hv _ (List.getElem_mem hlt)
    by_cases h3 : l[i].nots.length ≤ 300
    · obtain ⟨fs', s', h', e⟩ := plays_step l hl i hlt h1 h2 h3 h
      rw [e]
      exact ih (i + 1) fs' s' h' (by omega)
    · refine .inr ?_
      have h3' : 300 < (l[i].nots.length : Int) := by omega
      have hil : (i : Int) < l.length := by omega
      refine ⟨_, _, ?_, by unfold HD; rw [Lb_lp Try.func5]; simp [PO, PC.enc, lpd, loopsIn, Try.f5, hlt, hil, h3']; exact ⟨rfl, rfl⟩⟩
      simp
theorem act_plays (n : Int) (l : List PC) (hv : ∀ c ∈ l, c.bits < 18446744073709551616 ∧ c.n < 256) : S.f 5 [.d (.int .i64 n), .d (.fz (l.map PC.enc))] [] = some (.ret (.d (.bool true)), []) := by
  refine SL_enter Try.func5 rfl ht5 rfl ?_
  by_cases hl : l.length ≤ 60
  · have hl' : ¬ 60 < (l.length : Int) := by omega
    by_cases hn : n < 0 ∨ 256 < n
    · have h1 := new_bad hn
      have h2 := rnew_bad hn
      simp [Try.f5, ht5, known_true, hl', h1, h2]
    · obtain ⟨m, rfl⟩ : ∃ m : Nat, n = m := ⟨n.toNat, by omega⟩
      have hm : m ≤ 256 := by omega
      have h1 := new_ok hm
      have h2 := rnew_ok hm
      have hw0 : WF (List.replicate m 0) 4607182418800017408 := ⟨by simpa using hm, fun f hf => by rw [List.eq_of_mem_replicate hf]; decide, fun f hf => by rw [List.eq_of_mem_replicate hf]; decide, by decide⟩
      simp [AO] at h1 h2
      rcases plays_loop l hl hv l.length 0 _ _ hw0 (by simp) with ⟨env, fs', s', h', e5, e7, hloop⟩ | ⟨env, σ, e4, hloop⟩
      · have hs := same_ok h'
        simp [PO, HD] at hloop hs
        simp [Try.f5, ht5, L5, known_true, hl', h1, h2, hloop, e5, e7, hs]
      · simp [PO, HD] at hloop
        simp [Try.f5, ht5, L5, known_true, hl', h1, h2, hloop, e4]
  · have hl' : 60 < (l.length : Int) := by omega
    simp [Try.f5, ht5, known_true, hl']
theorem pcsOf : ∀ (l : List (List VL.D)), (∀ c ∈ l, ∃ p : PC, c = p.enc ∧ p.bits < 18446744073709551616 ∧ p.n < 256) → ∃ ps : List PC, l = ps.map PC.enc ∧ ∀ p ∈ ps, p.bits < 18446744073709551616 ∧ p.n < 256
  | [], _ => ⟨[], rfl, by simp⟩
  | c :: l, h => by
    obtain ⟨p, rfl, hp⟩ := h c (by simp)
    obtain ⟨ps, rfl, hps⟩ := pcsOf l fun c hc => h c (by simp [hc])
    exact ⟨p :: ps, rfl, by simpa using ⟨hp, hps⟩⟩
theorem act_plays_law (xs : List VL.D) (h : TyArgs Try.prog 4 Try.f5.params.toList xs) : PFun Try.prog 5 xs (.ret [.d (.bool true)]) := by
  have hp : Try.f5.params.toList = [3, 45] := by kernel_rfl
  rw [hp] at h
  obtain ⟨c, rest, rfl, hc, c', rest', rfl, hc', hr⟩ := h
  have hr : rest' = [] := hr
  subst hr
  have hu : Try.prog.underlying 3 = some (.int .i64) := by kernel_rfl
  have hu' : Try.prog.underlying 45 = some (.slice 50) := by kernel_rfl
  have hu40 : Try.prog.underlying 40 = some (.int .u64) := by kernel_rfl
  have hu5 : Try.prog.underlying 5 = some (.int .u8) := by kernel_rfl
  have hu37 : Try.prog.underlying 37 = some (.slice 4) := by kernel_rfl
  have hu4 : Try.prog.underlying 4 = some .bool := by kernel_rfl
  obtain ⟨fds, hu50, hfd⟩ : ∃ fds, Try.prog.underlying 50 = some (.struct fds) ∧ fds.toList.map (·.type) = [3, 3, 40, 5, 37] := ⟨_, Try.underlying50, rfl⟩
  simp only [TyD, hu, hu'] at hc hc'
  obtain ⟨x, rfl, hx⟩ := hc
  obtain ⟨l, rfl, hl, hc'⟩ := hc'
  simp only [hu50] at hc'
  have cells : ∀ (T : TypeId → List VL.D → Prop) (fs : List Field) (ds : List VL.D) (a b c d e : TypeId), fs.map (·.type) = [a, b, c, d, e] → TyFs Try.prog T fs ds → ∃ x1 x2 x3 x4 x5, ds = x1 ++ (x2 ++ (x3 ++ (x4 ++ x5))) ∧ T a x1 ∧ T b x2 ∧ T c x3 ∧ T d x4 ∧ T e x5 := by
    intro T fs ds a b c d e hf hT
    match fs, hf with
    | [f1, f2, f3, f4, f5], hf =>
      simp only [List.map_cons, List.map_nil, List.cons.injEq, and_true] at hf
      obtain ⟨rfl, rfl, rfl, rfl, rfl⟩ := hf
      obtain ⟨x1, r1, rfl, -, t1, x2, r2, rfl, -, t2, x3, r3, rfl, -, t3, x4, r4, rfl, -, t4, x5, r5, rfl, -, t5, hr⟩ := hT
      have hr : r5 = [] := hr
      subst hr
      exact ⟨x1, x2, x3, x4, x5, by simp, t1, t2, t3, t4, t5⟩
  obtain ⟨ps, rfl, hps⟩ := pcsOf l fun c hm => by
    obtain ⟨-, hT⟩ := hc' c hm
    obtain ⟨x1, x2, x3, x4, x5, rfl, t1, t2, t3, t4, t5⟩ := cells _ _ _ _ _ _ _ _ hfd hT
    simp only [TyD, hu, hu40, hu5, hu37] at t1 t2 t3 t4 t5
    obtain ⟨y1, rfl, -⟩ := t1
    obtain ⟨y2, rfl, -⟩ := t2
    obtain ⟨y3, rfl, w3⟩ := t3
    obtain ⟨y4, rfl, w4⟩ := t4
    obtain ⟨y5, rfl, -, t5⟩ := t5
    simp only [hu4] at t5
    obtain ⟨bs, rfl⟩ := boolsOf y5 fun c hm => (t5 c hm).2
    simp [Lit.wf, IntKind.min, IntKind.max, IntKind.signed, IntKind.bits] at w3 w4
    refine ⟨⟨y1, y2, y3.toNat, y4.toNat, bs⟩, ?_, by simp; omega, by simp; omega⟩
    simp [PC.enc, Int.toNat_of_nonneg w3.1, Int.toNat_of_nonneg w4.1]
  have := pfun_of_SL hok (g := 5) (x := .bool true) (ds := [_, _]) (act_plays x ps hps)
  simpa [argD, hu, hu'] using this
end Go.VL.Try
namespace Go.Proofs.Ytbgjkpokmlkgiaa
open Go Go.ChangeShapes Go.WideShapes Go.ChangeAt Go.RowKit
theorem plays_lifted (os : Os) (started : os.Started) (H : Type) (enc : TypeId × Value → H) :
    ReturnsInHanded {} Try.checked os 5 .any (Rows.actPlaysSpec.pre6 enc Try.prog Try.f5 Rows.actPlaysRow.domain false) (Rows.actPlaysSpec.post enc Try.prog Try.f5 false true false false) := by
  refine returnsInHanded_of_change (C := Try.checked) (by kernel_rfl) started (by kernel_rfl) Try.func5
    (ChangeSpec.witness6 (enc := enc) (C := Try.checked) false ⟨#[], #[.int .i64 0, .slice none 0 0], []⟩ 8 (by kernel_rfl) (by kernel_rfl) (by kernel_rfl) (by kernel_rfl)) ?_
  intro W base args ds gs before hval hW _ _
  refine Go.VL.law_true (n := 4) (tb := 4) Try.func5 rfl (by kernel_rfl) (by kernel_rfl) (by kernel_rfl) (by kernel_rfl) (by kernel_rfl) rfl ?_ Go.VL.Try.act_plays_law hval hW
  intro ds hd
  match ds, hd with
  | [d, e], _ => rfl
theorem plays_holds : Rows.ActPlaysSaid :=
  OpenClaim.holds_of_wide 5 Try.f5 rfl rfl rfl rfl rfl rfl rfl ⟨rfl, rfl, rfl, rfl, rfl⟩ rfl rfl rfl rfl rfl (by kernel_rfl) Try.func5 (by kernel_rfl)
    (of_decide_eq_true (by kernel_rfl)) (by unfold Func.isWrapper; first | (rw [if_pos (by decide +kernel)]; kernel_rfl) | (rw [if_neg (by decide +kernel)]; exact ⟨rfl, rfl⟩))
    (fun os started H enc _ => plays_lifted os started H enc)
end Go.Proofs.Ytbgjkpokmlkgiaa
