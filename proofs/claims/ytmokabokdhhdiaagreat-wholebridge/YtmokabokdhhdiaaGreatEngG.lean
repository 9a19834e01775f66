/- A part of the evaluator of the program and of its proof: texts E35, E36, E37, E38. -/
import Derived.Test.YtmokabokdhhdiaaGreatEngF
set_option linter.unusedVariables false
set_option linter.unusedSimpArgs false
namespace Go.Eng
open Go.RowKit

/-! ### What each operation of a region did -/

structure Rc where
  o : Oper
  b : Bool
  s : St
  s' : St
  v : AV
  D : List Nat
  A : AH
  fp : FP

def touch (e : Rc) (m : Nat) : Prop := m ∈ e.D ∨ hget e.A m ≠ none

structure RcOK (g : Cfg) (L : List Oper) (nb : Nat) (e : Rc) : Prop where
  gd : gdS L e.o e.s.tmps e.b
  tm : e.s'.tmps = putT e.s.tmps e.o.dst e.v
  hp : ∀ m, hget e.s'.heap m = hget (putH (dropH e.D e.s.heap) e.A) m
  ct : e.s.ctr ≤ e.s'.ctr
  tc : ∀ m, touch e m → (m ∈ e.fp.2 ∧ 2 ≤ e.fp.1) ∨ rngN nb m ∨ (e.fp.1 = 3 ∧ e.s.ctr ≤ m ∧ m < e.s'.ctr)
  t0 : e.fp.1 = 0 → (∀ m, ¬ touch e m) ∧ e.fp.2 = []
  sk : e.b = false → e.v = .top ∧ (∀ m, ¬ touch e m) ∧ e.s'.ctr = e.s.ctr
  uc : e.b = true → useC g e.o = true → e.fp.1 = 3
  nc : e.fp.1 ≠ 3 → e.s'.ctr = e.s.ctr
  run : e.b = true → ∀ a w G Z H, TR w G Z (mask e.o e.s.tmps) a.tmps → HR w G Z H → (∀ m ∈ e.fp.2, hget H m = hget e.s.heap m) → (∀ n, rngN nb n → G n = none) →
    (useC g e.o = true → ∀ n, e.s.ctr ≤ n → G n = none) → Does g.P e.o a w (OpT (NN nb e.s.ctr e.s'.ctr) w G Z H e.v (putH (dropH e.D H) e.A))

theorem hget_put (h : AH) (D : List Nat) (A : AH) (m : Nat) : hget (putH (dropH D h) A) m = match hget A m with | some b => some b | none => if m ∈ D then none else hget h m := by
  rw [hget_putH, hget_dropH]
  rfl

theorem Does.mono {P : Program} {o : Oper} {a : Act} {w : World} {T T' : Value → World → Prop} (h : Does P o a w T) (ht : ∀ u w', T u w' → T' u w') : Does P o a w T' :=
  fun ro n K Q hk => h ro n K Q fun u w' t => hk u w' (ht u w' t)

theorem useC_cls {g : Cfg} {o : Oper} (h : useC g o = true) : cls g o ≠ 0 ∧ cls g o ≠ 1 := by
  unfold useC at h
  constructor <;> intro e <;> rw [e] at h <;> cases h
theorem fpCls_use {g : Cfg} {o : Oper} (h : useC g o = true) : fpCls g o = 3 := by unfold fpCls; rw [h]
theorem fpCls_no {g : Cfg} {o : Oper} (h : useC g o = false) : fpCls g o = cls g o := by unfold fpCls; rw [h]
theorem cls_le (g : Cfg) (o : Oper) : cls g o ≤ 2 := by
  unfold cls
  repeat' split
  all_goals omega
theorem fpOf_0 {g : Cfg} {o : Oper} {s : St} (h : cls g o = 0) : fpOf g o s = [] := by
  unfold fpOf
  rw [h]
  rfl

theorem okNm_spec {fp : List Nat} {nb ctr ctr' : Nat} : ∀ {h : AH}, okNm fp nb ctr ctr' h = true → ∀ m, hget h m ≠ none → m ∈ fp ∨ rngN nb m ∨ (ctr ≤ m ∧ m < ctr')
  | [], _, m, hm => absurd rfl hm
  | (k, b) :: r, h, m, hm => by
    simp only [okNm, Bool.and_eq_true, Bool.or_eq_true, Nat.ble_eq, Nat.blt_eq] at h
    obtain ⟨h1, h2⟩ := h
    by_cases e : k = m
    · subst e
      rcases h1 with h1 | ⟨h1, h3⟩ | ⟨h1, h3⟩
      · exact .inl (memN_iff.1 h1)
      · exact .inr (.inl ⟨h1, h3⟩)
      · exact .inr (.inr ⟨h1, h3⟩)
    · simp only [hget, beq_ne e] at hm
      exact okNm_spec h2 m hm

/-- A part of the memory is seen; the rest stays. -/
theorem frame_run {P : Program} {o : Oper} {a : Act} {w : World} {G : Gh} {Z : Nat → Prop} {H h0 A' k : AH} {fp : List Nat} {N : Nat → Prop} {v : AV} (hr : HR w G Z H) (hag : ∀ m ∈ fp, hget H m = hget h0 m)
    (hd : HR w G Z (pickH fp h0) → Does P o a w (OpT N w G Z (pickH fp h0) v A')) (hN : ∀ n, N n → G n = none)
    (hk : ∀ m, hget k m = match hget A' m with | some b => some b | none => if m ∈ fp then none else hget H m) : Does P o a w (OpT N w G Z H v k) := by
  have hpa : ∀ nm bl, hget (pickH fp h0) nm = some bl → hget H nm = some bl := by
    intro nm bl h1
    rw [hget_pickH] at h1
    split at h1
    · rename_i hm; rw [hag nm hm]; exact h1
    · cases h1
  have hp : Parts H (pickH fp h0) (dropH fp H) := by
    refine ⟨hpa, ?_, ?_, ?_⟩
    · intro nm bl h1
      rw [hget_dropH] at h1
      split at h1
      · cases h1
      · exact h1
    · intro nm bl h1
      rw [hget_dropH] at h1
      split at h1
      · cases h1
      · rename_i hm; rw [hget_pickH, if_neg hm]
    · intro nm bl h1
      rw [hget_dropH, hget_pickH]
      by_cases hm : nm ∈ fp
      · rw [if_pos hm, ← hag nm hm]; exact .inl h1
      · rw [if_neg hm, if_neg hm]; exact .inr h1
  refine (hd (hr.sub hpa)).mono ?_
  rintro u w' ⟨G', Z', s, hv⟩
  refine ⟨G', Z', SR.frame hr hp s (fun n hn => fresh_h hr (hN n hn)) ?_ ?_ ?_, hv⟩
  · intro nm bl h1; rw [hk, h1]
  · intro nm bl h1 h2
    rw [hget_dropH] at h2
    rw [hk, h1]
    exact h2
  · intro nm bl h1
    rw [hk] at h1
    split at h1
    · rename_i b hb; cases h1; exact .inl hb
    · rename_i hb; exact .inr ⟨hb, by rw [hget_dropH]; exact h1⟩

theorem evOpF_ok {R : Type} {g : Cfg} (hg : CfgOK g) {cin : CallIn R} (hc : CinOK g.P cin) {n nb : Nat} {L : List Oper} {o : Oper} {s : St} {k : St → Option R} {r : R}
    (hgd : gdS L o s.tmps true) (h : evOpF g cin n nb (fpOf g o s) o s k = some r) : ∃ e : Rc, e.o = o ∧ e.s = s ∧ e.fp = (fpCls g o, fpOf g o s) ∧ RcOK g L nb e ∧ k e.s' = some r := by
  unfold evOpF at h
  rw [evOp1_congr (ev1_mask o s.tmps)] at h
  obtain ⟨v, h', ctr', hk, ⟨hle, hnc, hok⟩, hc0, hc1⟩ := evOp1_ok hg hc h
  cases hnm : okNm (fpOf g o s) nb s.ctr ctr' h' with
  | false => rw [hnm] at hk; cases hk
  | true =>
    rw [hnm] at hk
    have hnm' := okNm_spec hnm
    have hNf : ∀ {G : Gh}, (∀ n, rngN nb n → G n = none) → (useC g o = true → ∀ n, s.ctr ≤ n → G n = none) → ∀ n, NN nb s.ctr ctr' n → G n = none := by
      rintro G h1 h2 n (hn | ⟨hn1, hn2⟩)
      · exact h1 n hn
      · cases hu : useC g o with
        | true => exact h2 hu n hn1
        | false => have := hnc hu; omega
    have hcl : cls g o = 0 ∨ cls g o = 1 ∨ cls g o = 2 := by have := cls_le g o; omega
    rcases hcl with hcl | hcl | hcl
    · -- values alone
      have hu : useC g o = false := by cases hu : useC g o with | false => rfl | true => exact absurd hcl (useC_cls hu).1
      have hfp := fpOf_0 (s := s) hcl
      have hh : h' = pickH (fpOf g o s) s.heap := hc0 hcl
      have hhn : ∀ m, hget h' m = none := fun m => by rw [hh, hfp, hget_pickH, if_neg (by simp)]
      have hcc := hnc hu
      refine ⟨⟨o, true, s, { tmps := putT s.tmps o.dst v, heap := putH (dropH (fpOf g o s) s.heap) h', ctr := ctr' }, v, [], [], (fpCls g o, fpOf g o s)⟩, rfl, rfl, rfl, ?_, hk⟩
      refine ⟨hgd, rfl, ?_, hle, ?_, ?_, fun e => (by cases e), fun _ e => (by rw [hu] at e; cases e), fun _ => hcc, ?_⟩
      · intro m
        simp only [hget_put, hhn, hfp]
        rfl
      · rintro m (hm | hm)
        · cases hm
        · exact absurd rfl hm
      · refine fun _ => ⟨?_, hfp⟩
        rintro m (hm | hm)
        · cases hm
        · exact absurd rfl hm
      · intro _ a w G Z H ht hr hag h1 h2
        refine frame_run hr hag (fun hr' => hok a w G Z ht hr' h1 h2) (hNf h1 h2) fun m => ?_
        simp only [hget_put, hhn, hfp]
        rfl
    · -- what reads, or makes
      have hu : useC g o = false := by cases hu : useC g o with | false => rfl | true => exact absurd hcl (useC_cls hu).2
      obtain ⟨bs, hbl, hh⟩ := hc1 hcl
      have hcc := hnc hu
      have hA : ∀ m, hget (hsetAll [] nb bs) m = if nb ≤ m then bs[m - nb]? else none := by
        intro m
        rw [hget_hsetAll]
        split
        · cases bs[m - nb]? <;> rfl
        · rfl
      have hAr : ∀ m, hget (hsetAll [] nb bs) m ≠ none → rngN nb m := by
        intro m hm
        rw [hA] at hm
        split at hm
        · rename_i h1
          refine ⟨h1, ?_⟩
          rcases Nat.lt_or_ge m (nb + 64) with h2 | h2
          · exact h2
          · rw [List.getElem?_eq_none (by omega)] at hm; exact absurd rfl hm
        · exact absurd rfl hm
      have hh' : ∀ m, hget h' m = match hget (hsetAll [] nb bs) m with | some b => some b | none => if m ∈ fpOf g o s then hget s.heap m else none := by
        intro m
        rw [hh, hget_hsetAll, hA, hget_pickH]
        split <;> rfl
      refine ⟨⟨o, true, s, { tmps := putT s.tmps o.dst v, heap := putH (dropH (fpOf g o s) s.heap) h', ctr := ctr' }, v, [], hsetAll [] nb bs, (fpCls g o, fpOf g o s)⟩, rfl, rfl, rfl, ?_, hk⟩
      have hkk : ∀ H : AH, (∀ m ∈ fpOf g o s, hget H m = hget s.heap m) → ∀ m, hget (putH (dropH [] H) (hsetAll [] nb bs)) m = match hget h' m with | some b => some b | none => if m ∈ fpOf g o s then none else hget H m := by
        intro H hag m
        rw [hget_put, hh']
        cases hget (hsetAll [] nb bs) m with
        | some b => rfl
        | none =>
          simp only [List.not_mem_nil, if_false]
          by_cases hm : m ∈ fpOf g o s
          · simp only [if_pos hm]
            rw [hag m hm]
            cases hget s.heap m <;> rfl
          · simp only [if_neg hm]
      refine ⟨hgd, rfl, ?_, hle, ?_, ?_, fun e => (by cases e), fun _ e => (by rw [hu] at e; cases e), fun _ => hcc, ?_⟩
      · intro m
        rw [hkk s.heap (fun _ _ => rfl) m]
        simp only [hget_put]
      · rintro m (hm | hm)
        · cases hm
        · exact .inr (.inl (hAr m hm))
      · intro e
        simp only [fpCls_no hu, hcl] at e
        cases e
      · intro _ a w G Z H ht hr hag h1 h2
        exact frame_run hr hag (fun hr' => hok a w G Z ht hr' h1 h2) (hNf h1 h2) (hkk H hag)
    · -- what writes
      have hfc : 2 ≤ fpCls g o := by
        cases hu : useC g o with
        | true => rw [fpCls_use hu]; omega
        | false => rw [fpCls_no hu, hcl]; exact Nat.le_refl _
      refine ⟨⟨o, true, s, { tmps := putT s.tmps o.dst v, heap := putH (dropH (fpOf g o s) s.heap) h', ctr := ctr' }, v, fpOf g o s, h', (fpCls g o, fpOf g o s)⟩, rfl, rfl, rfl, ?_, hk⟩
      refine ⟨hgd, rfl, fun m => rfl, hle, ?_, ?_, fun e => (by cases e), fun _ e => fpCls_use e, ?_, ?_⟩
      · rintro m (hm | hm)
        · exact .inl ⟨hm, hfc⟩
        · rcases hnm' m hm with h1 | h1 | ⟨h1, h2⟩
          · exact .inl ⟨h1, hfc⟩
          · exact .inr (.inl h1)
          · cases hu : useC g o with
            | true => exact .inr (.inr ⟨fpCls_use hu, h1, h2⟩)
            | false => have := hnc hu; omega
      · intro e
        simp only at e
        omega
      · intro e
        simp only at e
        cases hu : useC g o with
        | true => exact absurd (fpCls_use hu) e
        | false => exact hnc hu
      · intro _ a w G Z H ht hr hag h1 h2
        refine frame_run hr hag (fun hr' => hok a w G Z ht hr' h1 h2) (hNf h1 h2) fun m => ?_
        simp only [hget_put]

def Chain (g : Cfg) (L : List Oper) (c0 : Nat) : Nat → St → List Rc → St → Prop
  | _, s, [], s' => s' = s
  | i, s, e :: r, s' => e.s = s ∧ RcOK g L (c0 + 64 * i) e ∧ Chain g L c0 (i + 1) e.s' r s'

theorem evDraw_chain {R : Type} {g : Cfg} (hg : CfgOK g) {cin : CallIn R} (hc : CinOK g.P cin) {n : Nat} {L : List Oper} {as : List (List Nat)} {c0 nc : Nat} {k : St → Option R} {r : R} :
    ∀ (rest : List Oper) (i : Nat) (fps : List FP) (s : St), evDraw g cin n L as c0 nc i rest fps s k = some r →
    ∃ es s', es.map (·.o) = rest ∧ Chain g L c0 i s es s' ∧ okFps c0 nc as (fps ++ es.map (·.fp)) 0 (fps ++ es.map (·.fp)) = true ∧ k s' = some r
  | [], i, fps, s, h => by
    simp only [evDraw] at h
    split at h
    · rename_i hf
      exact ⟨[], s, rfl, rfl, by simpa using hf, h⟩
    · cases h
  | o :: rest, i, fps, s, h => by
    simp only [evDraw] at h
    obtain ⟨b, hgd, hrun, hskip⟩ := guarded_ok h
    cases b with
    | true =>
      obtain ⟨e, rfl, rfl, hfp, hok, hk⟩ := evOpF_ok hg hc hgd (hrun rfl)
      obtain ⟨es, s', h1, h2, h3, h4⟩ := evDraw_chain hg hc rest (i + 1) _ _ hk
      refine ⟨e :: es, s', by simp [h1], ⟨rfl, hok, h2⟩, ?_, h4⟩
      simpa [hfp] using h3
    | false =>
      obtain ⟨es, s', h1, h2, h3, h4⟩ := evDraw_chain hg hc rest (i + 1) _ _ (hskip rfl)
      refine ⟨⟨o, false, s, { s with tmps := putT s.tmps o.dst .top }, .top, [], [], (0, [])⟩ :: es, s', by simp [h1], ⟨rfl, ?_, h2⟩, by simpa using h3, h4⟩
      have hno : ∀ m, ¬ touch ⟨o, false, s, { s with tmps := putT s.tmps o.dst .top }, .top, [], [], (0, [])⟩ m := by
        rintro m (hm | hm)
        · cases hm
        · exact hm rfl
      refine ⟨hgd, rfl, fun m => ?_, Nat.le_refl _, fun m hm => absurd hm (hno m), fun _ => ⟨hno, rfl⟩, fun _ => ⟨rfl, hno, rfl⟩, fun e => (by cases e), fun _ => rfl, fun e => (by cases e)⟩
      simp only [hget_put]
      rfl
end Go.Eng

set_option linter.unusedVariables false
set_option linter.unusedSimpArgs false
namespace Go.Eng
open Go.RowKit

/-! ### Operations that do not meet may change places -/

abbrev DS := List AV × AH
def Eqv (x y : DS) : Prop := x.1 = y.1 ∧ ∀ m, hget x.2 m = hget y.2 m
theorem Eqv.refl (x : DS) : Eqv x x := ⟨rfl, fun _ => rfl⟩
theorem Eqv.symm {x y : DS} (h : Eqv x y) : Eqv y x := ⟨h.1.symm, fun m => (h.2 m).symm⟩
theorem Eqv.trans {x y z : DS} (h : Eqv x y) (k : Eqv y z) : Eqv x z := ⟨h.1.trans k.1, fun m => (h.2 m).trans (k.2 m)⟩

def app (e : Rc) (x : DS) : DS := (putT x.1 e.o.dst e.v, putH (dropH e.D x.2) e.A)
def stD (D : Nat → Bool) : List Rc → Nat → DS → DS
  | [], _, x => x
  | e :: r, i, x => stD D r (i + 1) (match D i with | true => app e x | false => x)

theorem hget_ap (e : Rc) (x : DS) (m : Nat) : hget (app e x).2 m = match hget e.A m with | some b => some b | none => if m ∈ e.D then none else hget x.2 m := hget_put _ _ _ _
theorem hget_app_no {e : Rc} {m : Nat} (h : ¬ touch e m) (x : DS) : hget (app e x).2 m = hget x.2 m := by
  rw [hget_ap]
  have h1 : hget e.A m = none := by
    cases hh : hget e.A m with
    | none => rfl
    | some b => exact absurd (.inr (by rw [hh]; simp)) h
  have h2 : m ∉ e.D := fun hm => h (.inl hm)
  rw [h1, if_neg h2]
theorem hget_app_eq {e : Rc} {m : Nat} (h : touch e m) (x y : DS) : hget (app e x).2 m = hget (app e y).2 m := by
  rw [hget_ap, hget_ap]
  cases hh : hget e.A m with
  | some b => rfl
  | none =>
    rcases h with h | h
    · rw [if_pos h, if_pos h]
    · exact absurd hh h
theorem app_congr (e : Rc) {x y : DS} (h : Eqv x y) : Eqv (app e x) (app e y) := by
  refine ⟨by simp only [app, h.1], fun m => ?_⟩
  rw [hget_ap, hget_ap, h.2 m]

def Ind (e f : Rc) : Prop := (∀ t, e.o.dst = some t → f.o.dst ≠ some t) ∧ ∀ m, touch e m → ¬ touch f m

theorem setT_comm : ∀ (l : List AV) (i j : Nat) (x y : AV), i ≠ j → setT (setT l i x) j y = setT (setT l j y) i x
  | [], _, _, _, _, _ => rfl
  | _ :: _, 0, 0, _, _, h => absurd rfl h
  | _ :: _, 0, _ + 1, _, _, _ => rfl
  | _ :: _, _ + 1, 0, _, _, _ => rfl
  | a :: r, i + 1, j + 1, x, y, h => by simp [setT, setT_comm r i j x y (fun e => h (by rw [e]))]
theorem putT_comm {l : List AV} {d f : Option Tmp} {x y : AV} (h : ∀ t, d = some t → f ≠ some t) : putT (putT l d x) f y = putT (putT l f y) d x := by
  cases d with
  | none => rfl
  | some t =>
    cases f with
    | none => rfl
    | some u => exact setT_comm _ _ _ _ _ fun e => h t rfl (by rw [e])

theorem app_comm {e f : Rc} (h : Ind e f) (x : DS) : Eqv (app e (app f x)) (app f (app e x)) := by
  refine ⟨(putT_comm h.1).symm, fun m => ?_⟩
  by_cases he : touch e m
  · have hf := h.2 m he
    rw [hget_app_no hf, hget_app_eq he]
  · rw [hget_app_no he]
    by_cases hf : touch f m
    · exact hget_app_eq hf _ _
    · rw [hget_app_no hf, hget_app_no hf, hget_app_no he]

theorem stD_congr (D : Nat → Bool) : ∀ (r : List Rc) (i : Nat) {x y : DS}, Eqv x y → Eqv (stD D r i x) (stD D r i y)
  | [], _, _, _, h => h
  | e :: r, i, x, y, h => by
    simp only [stD]
    refine stD_congr D r (i + 1) ?_
    cases D i
    · exact h
    · exact app_congr e h
theorem stD_ext {D D' : Nat → Bool} : ∀ (r : List Rc) (i : Nat) (x : DS), (∀ k, i ≤ k → D k = D' k) → stD D r i x = stD D' r i x
  | [], _, _, _ => rfl
  | e :: r, i, x, h => by
    simp only [stD]
    rw [h i (Nat.le_refl _), stD_ext r (i + 1) _ fun k hk => h k (by omega)]
theorem stD_none {D : Nat → Bool} : ∀ (r : List Rc) (i : Nat) (x : DS), (∀ k, i ≤ k → D k = false) → stD D r i x = x
  | [], _, _, _ => rfl
  | e :: r, i, x, h => by
    simp only [stD]
    rw [h i (Nat.le_refl _)]
    exact stD_none r (i + 1) _ fun k hk => h k (by omega)
theorem stD_app {D : Nat → Bool} {f : Rc} : ∀ (r : List Rc) (i : Nat) (x : DS), (∀ k e, r[k]? = some e → D (i + k) = true → Ind e f) → Eqv (stD D r i (app f x)) (app f (stD D r i x))
  | [], _, x, _ => Eqv.refl _
  | e :: r, i, x, h => by
    simp only [stD]
    have ih : ∀ y, Eqv (stD D r (i + 1) (app f y)) (app f (stD D r (i + 1) y)) := fun y => stD_app r (i + 1) y fun k e' hk hd => h (k + 1) e' (by simpa using hk) (by rw [show i + (k + 1) = i + 1 + k by omega]; exact hd)
    cases hd : D i with
    | false => exact ih x
    | true => exact (stD_congr D r (i + 1) (app_comm (h 0 e rfl (by simpa using hd)) x)).trans (ih _)

def ins (D : Nat → Bool) (j k : Nat) : Bool := if k = j then true else D k
theorem stD_ins {D : Nat → Bool} {f : Rc} {j : Nat} (hj : D j = false) : ∀ (r : List Rc) (i : Nat) (x : DS), i ≤ j → r[j - i]? = some f → (∀ k e, r[k]? = some e → j < i + k → D (i + k) = true → Ind e f) →
    Eqv (stD (ins D j) r i x) (app f (stD D r i x))
  | [], i, x, _, h, _ => by simp at h
  | e :: r, i, x, hi, h, hI => by
    simp only [stD]
    by_cases hij : i = j
    · subst hij
      simp only [Nat.sub_self, List.getElem?_cons_zero, Option.some.injEq] at h
      subst h
      have e1 : ins D i i = true := if_pos rfl
      rw [e1, hj]
      simp only
      rw [stD_ext (D := ins D i) (D' := D) r (i + 1) _ fun k hk => if_neg (by omega)]
      exact stD_app r (i + 1) x fun k e' hk hd => hI (k + 1) e' (by simpa using hk) (by omega) (by rw [show i + (k + 1) = i + 1 + k by omega]; exact hd)
    · have e1 : ins D j i = D i := if_neg hij
      rw [e1]
      refine stD_ins hj r (i + 1) _ (by omega) ?_ ?_
      · rw [show j - i = (j - (i + 1)) + 1 by omega] at h
        simpa using h
      · intro k e' hk hd1 hd2
        exact hI (k + 1) e' (by simpa using hk) (by omega) (by rw [show i + (k + 1) = i + 1 + k by omega]; exact hd2)

def Agree (Rt Rn : List Nat) (x y : DS) : Prop := x.1.length = y.1.length ∧ (∀ t ∈ Rt, getT x.1 t = getT y.1 t) ∧ ∀ m ∈ Rn, hget x.2 m = hget y.2 m
/-- An operation leaves alone what is looked at. -/
def NoT (e : Rc) (Rt Rn : List Nat) : Prop := (∀ t, e.o.dst = some t → t ∉ Rt) ∧ ∀ m ∈ Rn, ¬ touch e m

theorem putT_len (l : List AV) (d : Option Tmp) (v : AV) : (putT l d v).length = l.length := by
  cases d with
  | none => rfl
  | some t => exact setT_length _ _ _
theorem getT_putT (l : List AV) (d : Option Tmp) (v : AV) (t : Nat) : getT (putT l d v) t = if d = some t ∧ t < l.length then v else getT l t := by
  cases d with
  | none => simp [putT]
  | some u =>
    simp only [putT, getT_setT, Option.some.injEq]
    by_cases e : t = u
    · subst e; rfl
    · rw [if_neg (fun h => e h.1), if_neg (fun h => e h.1.symm)]
theorem agree_skip {e : Rc} {Rt Rn : List Nat} (h : NoT e Rt Rn) {x y : DS} (ha : Agree Rt Rn x y) : Agree Rt Rn (app e x) y := by
  refine ⟨by simp only [app, putT_len]; exact ha.1, fun t ht => ?_, fun m hm => ?_⟩
  · simp only [app, getT_putT]
    rw [if_neg fun hh => h.1 t hh.1 ht]
    exact ha.2.1 t ht
  · rw [hget_app_no (h.2 m hm)]
    exact ha.2.2 m hm
theorem Agree.symm {Rt Rn : List Nat} {x y : DS} (h : Agree Rt Rn x y) : Agree Rt Rn y x := ⟨h.1.symm, fun t ht => (h.2.1 t ht).symm, fun m hm => (h.2.2 m hm).symm⟩
theorem agree_both (e : Rc) {Rt Rn : List Nat} {x y : DS} (ha : Agree Rt Rn x y) : Agree Rt Rn (app e x) (app e y) := by
  refine ⟨by simp only [app, putT_len]; exact ha.1, fun t ht => ?_, fun m hm => ?_⟩
  · simp only [app, getT_putT, ha.1]
    split
    · rfl
    · exact ha.2.1 t ht
  · rw [hget_ap, hget_ap, ha.2.2 m hm]
theorem agree_fold {Rt Rn : List Nat} {D D' : Nat → Bool} : ∀ (r : List Rc) (i : Nat) {x y : DS}, (∀ k e, r[k]? = some e → D (i + k) ≠ D' (i + k) → NoT e Rt Rn) → Agree Rt Rn x y → Agree Rt Rn (stD D r i x) (stD D' r i y)
  | [], _, _, _, _, h => h
  | e :: r, i, x, y, h, ha => by
    simp only [stD]
    refine agree_fold r (i + 1) (fun k e' hk hd => h (k + 1) e' (by simpa using hk) (by rw [show i + (k + 1) = i + 1 + k by omega]; exact hd)) ?_
    have h0 := h 0 e rfl
    simp only [Nat.add_zero] at h0
    cases hd : D i <;> cases hd' : D' i <;> rw [hd, hd'] at h0 <;> simp only
    · exact ha
    · exact (agree_skip (h0 (by simp)) ha.symm).symm
    · exact agree_skip (h0 (by simp)) ha
    · exact agree_both e ha

/-! ### The order of the text -/

section
variable {g : Cfg} {L : List Oper} {c0 : Nat}

theorem chain_at : ∀ {es : List Rc} {i : Nat} {s s' : St}, Chain g L c0 i s es s' → ∀ k e, es[k]? = some e →
    RcOK g L (c0 + 64 * (i + k)) e ∧ Eqv (e.s.tmps, e.s.heap) (stD (fun n => decide (n < i + k)) es i (s.tmps, s.heap)) ∧ s.ctr ≤ e.s.ctr ∧ e.s'.ctr ≤ s'.ctr
  | [], i, s, s', h, k, e, hk => by simp at hk
  | e0 :: r, i, s, s', h, k, e, hk => by
    obtain ⟨rfl, h2, h3⟩ := h
    have hmono : ∀ {es : List Rc} {i : Nat} {s s' : St}, Chain g L c0 i s es s' → s.ctr ≤ s'.ctr := by
      intro es
      induction es with
      | nil => intro i s s' h; rw [show s' = s from h]; exact Nat.le_refl _
      | cons e r ih =>
        intro i s s' h
        obtain ⟨rfl, q2, q3⟩ := h
        exact Nat.le_trans q2.ct (ih q3)
    cases k with
    | zero =>
      simp only [List.getElem?_cons_zero, Option.some.injEq] at hk
      subst hk
      refine ⟨h2, ?_, Nat.le_refl _, hmono h3⟩
      rw [stD_none _ _ _ fun n hn => by simp; omega]
      exact Eqv.refl _
    | succ k =>
      simp only [List.getElem?_cons_succ] at hk
      obtain ⟨q1, q2, q3, q4⟩ := chain_at h3 k e hk
      rw [show i + 1 + k = i + (k + 1) by omega] at q1 q2
      refine ⟨q1, ?_, Nat.le_trans h2.ct q3, q4⟩
      simp only [stD]
      rw [show decide (i < i + (k + 1)) = true by simp]
      simp only
      exact q2.trans (stD_congr _ r (i + 1) ⟨h2.tm, h2.hp⟩)
theorem chain_end : ∀ {es : List Rc} {i : Nat} {s s' : St}, Chain g L c0 i s es s' → Eqv (s'.tmps, s'.heap) (stD (fun _ => true) es i (s.tmps, s.heap))
  | [], i, s, s', h => by rw [show s' = s from h]; exact Eqv.refl _
  | e0 :: r, i, s, s', h => by
    obtain ⟨rfl, h2, h3⟩ := h
    simp only [stD]
    exact (chain_end h3).trans (stD_congr _ r (i + 1) ⟨h2.tm, h2.hp⟩)
theorem chain_ctr : ∀ {es : List Rc} {i : Nat} {s s' : St}, Chain g L c0 i s es s' → ∀ (k l : Nat) (e f : Rc), es[k]? = some e → es[l]? = some f → k < l → e.s'.ctr ≤ f.s.ctr
  | [], i, s, s', h, k, l, e, f, hk, _, _ => by simp at hk
  | e0 :: r, i, s, s', h, k, l, e, f, hk, hl, hlt => by
    obtain ⟨rfl, h2, h3⟩ := h
    cases l with
    | zero => omega
    | succ l =>
      simp only [List.getElem?_cons_succ] at hl
      cases k with
      | zero =>
        simp only [List.getElem?_cons_zero, Option.some.injEq] at hk
        subst hk
        exact (chain_at h3 l f hl).2.2.1
      | succ k =>
        simp only [List.getElem?_cons_succ] at hk
        exact chain_ctr h3 k l e f hk hl (by omega)
end
end Go.Eng

set_option linter.unusedVariables false
set_option linter.unusedSimpArgs false
namespace Go.Eng
open Go.RowKit

/-! ### What the looks say -/

theorem backE_spec : ∀ {l : List Oper} {j : Nat}, backE j l = true → ∀ (k : Nat) (o : Oper), l[k]? = some o → ∀ e ∈ o.after, Region.binds .any e = true → e.on < j + k
  | [], j, _, k, o, hk => by simp at hk
  | o0 :: r, j, h, k, o, hk => by
    simp only [backE, Bool.and_eq_true] at h
    intro e he hb
    cases k with
    | zero =>
      simp only [List.getElem?_cons_zero, Option.some.injEq] at hk
      subst hk
      have := List.all_eq_true.1 h.1 e (by simpa using he)
      simp only [hb, Bool.not_true, Bool.false_or, Nat.blt_eq] at this
      simpa using this
    | succ k =>
      simp only [List.getElem?_cons_succ] at hk
      have := backE_spec h.2 k o hk e he hb
      omega
theorem okDrawAt_spec {ops : List Oper} {y : Oper} {aj : List Nat} : ∀ {l : List Oper} {i : Nat}, okDrawAt ops y aj i l = true → ∀ (k : Nat) (x : Oper), l[k]? = some x → i + k ∈ aj ∨ okPairT ops x y = true
  | [], i, _, k, o, hk => by simp at hk
  | o0 :: r, i, h, k, o, hk => by
    simp only [okDrawAt, Bool.and_eq_true, Bool.or_eq_true] at h
    cases k with
    | zero =>
      simp only [List.getElem?_cons_zero, Option.some.injEq] at hk
      subst hk
      exact h.1.imp (fun h => memN_iff.1 h) id
    | succ k =>
      simp only [List.getElem?_cons_succ] at hk
      have := okDrawAt_spec h.2 k o hk
      rwa [show i + 1 + k = i + (k + 1) by omega] at this
theorem okDrawFrom_spec {ops : List Oper} {as : List (List Nat)} : ∀ {l : List Oper} {j : Nat}, okDrawFrom ops as j l = true → ∀ (k : Nat) (y : Oper), l[k]? = some y → okDrawAt ops y (as.getD (j + k) []) 0 (ops.take (j + k)) = true
  | [], j, _, k, o, hk => by simp at hk
  | o0 :: r, j, h, k, o, hk => by
    simp only [okDrawFrom, Bool.and_eq_true] at h
    cases k with
    | zero =>
      simp only [List.getElem?_cons_zero, Option.some.injEq] at hk
      subst hk
      exact h.1
    | succ k =>
      simp only [List.getElem?_cons_succ] at hk
      have := okDrawFrom_spec h.2 k o hk
      rwa [show j + 1 + k = j + (k + 1) by omega] at this
theorem okDraw_spec {L : List Oper} (h : okDraw L = true) {i j : Nat} {x y : Oper} (hij : i < j) (hi : L[i]? = some x) (hj : L[j]? = some y) : i ∈ (anc L []).getD j [] ∨ okPairT L x y = true := by
  unfold okDraw at h
  simp only [Bool.and_eq_true] at h
  have h1 := okDrawFrom_spec h.2 j y hj
  have h2 := okDrawAt_spec h1 i x (by rw [List.getElem?_take, if_pos (by omega)]; exact hi)
  simpa using h2
theorem okFpAt_spec {c0 nc j : Nat} {y : FP} {aj : List Nat} : ∀ {l : List FP} {i : Nat}, okFpAt c0 nc j y aj i l = true → ∀ (k : Nat) (x : FP), l[k]? = some x → i + k ∈ aj ∨ okPairF c0 nc (i + k) j x y = true
  | [], i, _, k, o, hk => by simp at hk
  | o0 :: r, i, h, k, o, hk => by
    simp only [okFpAt, Bool.and_eq_true, Bool.or_eq_true] at h
    cases k with
    | zero =>
      simp only [List.getElem?_cons_zero, Option.some.injEq] at hk
      subst hk
      exact h.1.imp (fun h => memN_iff.1 h) id
    | succ k =>
      simp only [List.getElem?_cons_succ] at hk
      have := okFpAt_spec h.2 k o hk
      rwa [show i + 1 + k = i + (k + 1) by omega] at this
theorem okFpsFrom_spec {c0 nc : Nat} {as : List (List Nat)} {fps : List FP} : ∀ {l : List FP} {j : Nat}, okFps c0 nc as fps j l = true → ∀ (k : Nat) (y : FP), l[k]? = some y → okFpAt c0 nc (j + k) y (as.getD (j + k) []) 0 (fps.take (j + k)) = true
  | [], j, _, k, o, hk => by simp at hk
  | o0 :: r, j, h, k, o, hk => by
    simp only [okFps, Bool.and_eq_true] at h
    cases k with
    | zero =>
      simp only [List.getElem?_cons_zero, Option.some.injEq] at hk
      subst hk
      exact h.1
    | succ k =>
      simp only [List.getElem?_cons_succ] at hk
      have := okFpsFrom_spec h.2 k o hk
      rwa [show j + 1 + k = j + (k + 1) by omega] at this
theorem okFps_spec {c0 nc : Nat} {as : List (List Nat)} {fps : List FP} (h : okFps c0 nc as fps 0 fps = true) {i j : Nat} {x y : FP} (hij : i < j) (hi : fps[i]? = some x) (hj : fps[j]? = some y) :
    i ∈ as.getD j [] ∨ okPairF c0 nc i j x y = true := by
  have h1 := okFpsFrom_spec h j y hj
  have h2 := okFpAt_spec h1 i x (by rw [List.getElem?_take, if_pos (by omega)]; exact hi)
  simpa using h2

theorem getD_app_lt {α : Type} (l r : List α) (j : Nat) (d : α) (h : j < l.length) : (l ++ r).getD j d = l.getD j d := by
  simp [List.getD_eq_getElem?_getD, List.getElem?_append_left h]
theorem anc_pre : ∀ (r : List Oper) (acc : List (List Nat)) (j : Nat), j < acc.length → (anc r acc).getD j [] = acc.getD j []
  | [], acc, j, _ => rfl
  | o :: r, acc, j, h => by
    simp only [anc]
    rw [anc_pre r _ j (by simp; omega), getD_app_lt _ _ _ _ h]
theorem foldl_anc (acc : List (List Nat)) : ∀ (es : List Edge) (l : List Nat) (x : Nat), x ∈ es.foldl (fun l e => match Region.binds .any e with
    | true => l ++ (e.on :: acc.getD e.on [])
    | false => l) l → x ∈ l ∨ ∃ e ∈ es, Region.binds .any e = true ∧ (x = e.on ∨ x ∈ acc.getD e.on [])
  | [], l, x, h => .inl h
  | e :: es, l, x, h => by
    simp only [List.foldl_cons] at h
    rcases foldl_anc acc es _ x h with h1 | ⟨e', h1, h2⟩
    · cases hb : Region.binds .any e with
      | true =>
        rw [hb] at h1
        simp only [List.mem_append, List.mem_cons] at h1
        rcases h1 with h1 | h1
        · exact .inl h1
        · exact .inr ⟨e, by simp, hb, h1⟩
      | false => rw [hb] at h1; exact .inl h1
    · exact .inr ⟨e', List.mem_cons_of_mem _ h1, h2⟩
theorem anc_spec : ∀ (r : List Oper) (acc : List (List Nat)) (j x : Nat), x ∈ (anc r acc).getD j [] →
    j < acc.length ∨ ∃ o, r[j - acc.length]? = some o ∧ ∃ e ∈ o.after, Region.binds .any e = true ∧ (x = e.on ∨ x ∈ (anc r acc).getD e.on [])
  | [], acc, j, x, h => by
    simp only [anc] at h
    rcases Nat.lt_or_ge j acc.length with h1 | h1
    · exact .inl h1
    · rw [List.getD_eq_getElem?_getD, List.getElem?_eq_none h1] at h; cases h
  | o :: r, acc, j, x, h => by
    simp only [anc] at h ⊢
    rcases Nat.lt_or_ge j acc.length with h1 | h1
    · exact .inl h1
    · refine .inr ?_
      rcases Nat.lt_or_ge acc.length j with h2 | h2
      · rcases anc_spec r _ j x h with h3 | ⟨o', h3, h4⟩
        · simp at h3; omega
        · refine ⟨o', ?_, h4⟩
          simp only [List.length_append, List.length_cons, List.length_nil] at h3
          rw [show j - acc.length = (j - (acc.length + (0 + 1))) + 1 by omega, List.getElem?_cons_succ]
          exact h3
      · obtain rfl : j = acc.length := by omega
        refine ⟨o, by simp, ?_⟩
        rw [anc_pre r _ _ (by simp)] at h
        rw [List.getD_eq_getElem?_getD, List.getElem?_append_right (Nat.le_refl _), Nat.sub_self] at h
        simp only [List.getElem?_cons_zero, Option.getD_some] at h
        rcases foldl_anc acc _ _ x h with h3 | ⟨e, h3, h4, h5⟩
        · cases h3
        · refine ⟨e, by simpa using h3, h4, h5.imp id fun h6 => ?_⟩
          rcases Nat.lt_or_ge e.on acc.length with h7 | h7
          · rw [anc_pre r _ _ (by simp; omega), getD_app_lt _ _ _ _ h7]; exact h6
          · rw [List.getD_eq_getElem?_getD, List.getElem?_eq_none h7] at h6; cases h6
theorem anc_dir {L : List Oper} {j x : Nat} (h : x ∈ (anc L []).getD j []) : ∃ o, L[j]? = some o ∧ ∃ e ∈ o.after, Region.binds .any e = true ∧ (x = e.on ∨ x ∈ (anc L []).getD e.on []) := by
  rcases anc_spec L [] j x h with h1 | h1
  · simp at h1
  · simpa using h1

theorem disj_spec {a b : List Nat} (h : disj a b = true) : ∀ x ∈ a, x ∉ b := by
  intro x hx hb
  have := List.all_eq_true.1 h x hx
  rw [memN_iff.2 hb] at this
  cases this
theorem noneMade_spec {c0 nc i : Nat} {fp : FP} : ∀ {l : List Nat}, noneMade c0 nc i fp l = true → ∀ m ∈ l, madeBy c0 nc i fp m = false
  | [], _, m, hm => by cases hm
  | k :: r, h, m, hm => by
    simp only [noneMade, Bool.and_eq_true, Bool.not_eq_true'] at h
    rcases List.mem_cons.1 hm with rfl | hm
    · exact h.1
    · exact noneMade_spec h.2 m hm
theorem madeBy_rng {c0 nc i : Nat} {fp : FP} {m : Nat} (h : madeBy c0 nc i fp m = false) : ¬ rngN (c0 + 64 * i) m := by
  rintro ⟨h1, h2⟩
  simp only [madeBy, Bool.or_eq_false_iff] at h
  have : (Nat.ble (c0 + 64 * i) m && Nat.blt m (c0 + 64 * i + 64)) = true := by simp [Nat.ble_eq, Nat.blt_eq, h1, h2]
  rw [this] at h
  cases h.1
theorem madeBy_ctr {c0 nc i : Nat} {fp : FP} {m : Nat} (h : madeBy c0 nc i fp m = false) (h3 : fp.1 = 3) : m < nc := by
  simp only [madeBy, Bool.or_eq_false_iff] at h
  rcases Nat.lt_or_ge m nc with h1 | h1
  · exact h1
  · have : (Nat.beq fp.1 3 && Nat.ble nc m) = true := by simp [h3, Nat.ble_eq, h1]
    rw [this] at h
    cases h.2

structure Apart (L : List Oper) (e f : Rc) : Prop where
  i1 : Ind e f
  i2 : Ind f e
  n1 : NoT e (readsT L f.o) f.fp.2
  n2 : NoT f (readsT L e.o) e.fp.2
  c : ¬ (e.fp.1 = 3 ∧ f.fp.1 = 3)
theorem Apart.symm {L : List Oper} {e f : Rc} (h : Apart L e f) : Apart L f e := ⟨h.i2, h.i1, h.n2, h.n1, fun hh => h.c ⟨hh.2, hh.1⟩⟩

theorem apart_of {g : Cfg} {L : List Oper} {c0 nc i j : Nat} {e f : Rc} (he : RcOK g L (c0 + 64 * i) e) (hf : RcOK g L (c0 + 64 * j) f) (hij : i ≠ j) (hi : c0 + 64 * i + 64 ≤ nc) (hj : c0 + 64 * j + 64 ≤ nc)
    (hce : nc ≤ e.s.ctr) (hcf : nc ≤ f.s.ctr) (ht : okPairT L e.o f.o = true) (hp : okPairF c0 nc i j e.fp f.fp = true) : Apart L e f := by
  simp only [okPairT, Bool.and_eq_true] at ht
  obtain ⟨t1, t2, t3⟩ := ht
  have t1' := disj_spec t1
  have t2' := disj_spec t2
  have t3' := disj_spec t3
  have hdst : ∀ {o : Oper} {t : Nat}, o.dst = some t → t ∈ dstT o := by intro o t h; unfold dstT; rw [h]; simp
  have hdst' : ∀ {o : Oper} {t : Nat}, o.dst = some t → dstT o = [t] := by intro o t h; unfold dstT; rw [h]
  -- what the pair's look says
  have key : e.fp.1 = 0 ∨ f.fp.1 = 0 ∨ ((∀ m ∈ f.fp.2, madeBy c0 nc i e.fp m = false) ∧ (∀ m ∈ e.fp.2, madeBy c0 nc j f.fp m = false) ∧ ((e.fp.1 = 1 ∧ f.fp.1 = 1) ∨ ∀ m ∈ e.fp.2, m ∉ f.fp.2) ∧ ¬ (e.fp.1 = 3 ∧ f.fp.1 = 3)) := by
    simp only [okPairF, Bool.or_eq_true, Bool.and_eq_true, Bool.not_eq_true', Nat.beq_eq] at hp
    rcases hp with h | h | ⟨h1, h2, h3, h4⟩
    · exact .inl h
    · exact .inr (.inl h)
    · refine .inr (.inr ⟨noneMade_spec h1, noneMade_spec h2, h3.imp id disj_spec, ?_⟩)
      rintro ⟨h5, h6⟩
      rw [h5, h6] at h4
      cases h4
  have ne : ∀ m ∈ f.fp.2, ¬ touch e m := by
    intro m hm ht
    rcases key with h | h | ⟨h1, h2, h3, h4⟩
    · exact (he.t0 h).1 m ht
    · rw [(hf.t0 h).2] at hm; cases hm
    · rcases he.tc m ht with ⟨q1, q2⟩ | q | ⟨q1, q2, q3⟩
      · rcases h3 with h3 | h3
        · omega
        · exact h3 m q1 hm
      · exact madeBy_rng (h1 m hm) q
      · have := madeBy_ctr (h1 m hm) q1; omega
  have nf : ∀ m ∈ e.fp.2, ¬ touch f m := by
    intro m hm ht
    rcases key with h | h | ⟨h1, h2, h3, h4⟩
    · rw [(he.t0 h).2] at hm; cases hm
    · exact (hf.t0 h).1 m ht
    · rcases hf.tc m ht with ⟨q1, q2⟩ | q | ⟨q1, q2, q3⟩
      · rcases h3 with h3 | h3
        · omega
        · exact h3 m hm q1
      · exact madeBy_rng (h2 m hm) q
      · have := madeBy_ctr (h2 m hm) q1; omega
  have hc : ¬ (e.fp.1 = 3 ∧ f.fp.1 = 3) := by
    rintro ⟨h5, h6⟩
    rcases key with h | h | ⟨h1, h2, h3, h4⟩
    · omega
    · omega
    · exact h4 ⟨h5, h6⟩
  have both : ∀ m, touch e m → ¬ touch f m := by
    intro m h1 h2
    rcases he.tc m h1 with ⟨q1, q2⟩ | ⟨q1, q2⟩ | ⟨q1, q2, q3⟩
    · exact nf m q1 h2
    · rcases hf.tc m h2 with ⟨p1, p2⟩ | ⟨p1, p2⟩ | ⟨p1, p2, p3⟩
      · exact ne m p1 h1
      · omega
      · omega
    · rcases hf.tc m h2 with ⟨p1, p2⟩ | ⟨p1, p2⟩ | ⟨p1, p2, p3⟩
      · exact ne m p1 h1
      · omega
      · exact hc ⟨q1, p1⟩
  refine ⟨⟨fun t h1 h2 => ?_, both⟩, ⟨fun t h1 h2 => ?_, fun m h1 h2 => both m h2 h1⟩, ⟨fun t h1 => t2' t (hdst h1), ne⟩, ⟨fun t h1 => t3' t (hdst h1), nf⟩, hc⟩
  · exact t1' t (hdst h1) (hdst h2)
  · exact t1' t (hdst h2) (hdst h1)
end Go.Eng

set_option linter.unusedVariables false
set_option linter.unusedSimpArgs false
namespace Go.Eng
open Go.RowKit

/-! ### Regions that draw their order -/

theorem stD_ext' {D D' : Nat → Bool} : ∀ (r : List Rc) (i : Nat) (x : DS), (∀ k, k < r.length → D (i + k) = D' (i + k)) → stD D r i x = stD D' r i x
  | [], _, _, _ => rfl
  | e :: r, i, x, h => by
    simp only [stD]
    have h0 := h 0 (by simp)
    simp only [Nat.add_zero] at h0
    rw [h0]
    exact stD_ext' r (i + 1) _ fun k hk => (by rw [show i + 1 + k = i + (k + 1) by omega]; exact h (k + 1) (by simpa using hk))

theorem count_set : ∀ (l : List Bool) (j : Nat), l[j]? = some false → (l.set j true).count false + 1 = l.count false
  | [], _, h => by simp at h
  | b :: r, 0, h => by
    simp only [List.getElem?_cons_zero, Option.some.injEq] at h
    subst h
    simp
  | b :: r, j + 1, h => by
    simp only [List.getElem?_cons_succ] at h
    simp only [List.set_cons_succ, List.count_cons]
    have := count_set r j h
    omega

theorem HR.eqv {w : World} {G : Gh} {Z : Nat → Prop} {h k : AH} (hr : HR w G Z h) (e : ∀ m, hget k m = hget h m) : HR w G Z k := hr.sub fun nm bl hh => by rw [← e]; exact hh

section
variable {dd : List Deferred} {g : Cfg} {ops : Array Oper} {c0 : Nat} {es : List Rc} {s0 s1 : St}

structure DI (dd : List Deferred) (g : Cfg) (ops : Array Oper) (c0 : Nat) (es : List Rc) (s0 : St) (w0 : World) (G0 : Gh) (Z0 : Nat → Prop) (D : Nat → Bool) (a : Act) (w : World) (G : Gh) (Z : Nat → Prop) : Prop where
  closed : ∀ j, D j = true → ∀ x ∈ (anc ops.toList []).getD j [], D x = true
  tr : TR w G Z (stD D es 0 (s0.tmps, s0.heap)).1 a.tmps
  df : a.defers = dd
  fr : ∀ n, c0 ≤ n → G n ≠ none → ∃ i e, es[i]? = some e ∧ D i = true ∧ (rngN (c0 + 64 * i) n ∨ (e.s.ctr ≤ n ∧ n < e.s'.ctr))
  sr : SR (c0 ≤ ·) w0 G0 Z0 s0.heap w G Z (stD D es 0 (s0.tmps, s0.heap)).2

theorem draw_step (hL : es.map (·.o) = ops.toList) (hch : Chain g ops.toList c0 0 s0 es s1) (hc0 : c0 + 64 * es.length ≤ s0.ctr)
    (hpair : ∀ (i j : Nat) (e f : Rc), i < j → es[i]? = some e → es[j]? = some f → i ∈ (anc ops.toList []).getD j [] ∨ Apart ops.toList e f)
    {w0 : World} {G0 : Gh} {Z0 : Nat → Prop} {D : Nat → Bool} {a : Act} {w : World} {G : Gh} {Z : Nat → Prop} (hI : DI dd g ops c0 es s0 w0 G0 Z0 D a w G Z)
    {j : Nat} {o : Oper} (hj : ops[j]? = some o) (hD : D j = false) (hrd : ∀ e ∈ o.after, Region.binds .any e = true → D e.on = true)
    {ro : Option Nat} {m : Nat} {K : Act → World → Prop} {Q : Exit → Act → World → Prop} (hK : ∀ a' w' G' Z', DI dd g ops c0 es s0 w0 G0 Z0 (ins D j) a' w' G' Z' → K a' w') : wpOpIn (FW ro) m g.P ops Q j K a w := by
  have hLj : ∀ (k : Nat) (e : Rc), es[k]? = some e → ops.toList[k]? = some e.o := by
    intro k e he
    rw [← hL, List.getElem?_map, he]; rfl
  obtain ⟨e, he, rfl⟩ : ∃ e, es[j]? = some e ∧ e.o = o := by
    have : ops.toList[j]? = some o := by simpa using hj
    rw [← hL, List.getElem?_map] at this
    cases h : es[j]? with
    | none => rw [h] at this; cases this
    | some e => rw [h] at this; exact ⟨e, rfl, by simpa using this⟩
  have hanc : ∀ x ∈ (anc ops.toList []).getD j [], D x = true := by
    intro x hx
    obtain ⟨o', h1, e', h2, h3, h4⟩ := anc_dir hx
    rw [hLj j e he] at h1; cases h1
    have h5 := hrd e' h2 h3
    rcases h4 with rfl | h4
    · exact h5
    · exact hI.closed _ h5 x h4
  have hlt : ∀ {k : Nat} {f : Rc}, es[k]? = some f → c0 + 64 * k + 64 ≤ s0.ctr := by
    intro k f hf
    have := (List.getElem?_eq_some_iff.1 hf).1
    omega
  obtain ⟨hok, heq, hct, _⟩ := chain_at hch j e he
  simp only [Nat.zero_add] at hok heq
  have hap : ∀ (k : Nat) (f : Rc), es[k]? = some f → D k = true → j < k → Apart ops.toList e f := by
    intro k f hf hk hjk
    rcases hpair j k e f hjk he hf with h | h
    · rw [hI.closed k hk j h] at hD; cases hD
    · exact h
  have hag : Agree (readsT ops.toList e.o) e.fp.2 (stD D es 0 (s0.tmps, s0.heap)) (e.s.tmps, e.s.heap) := by
    have h1 : Agree (readsT ops.toList e.o) e.fp.2 (stD D es 0 (s0.tmps, s0.heap)) (stD (fun n => decide (n < j)) es 0 (s0.tmps, s0.heap)) := by
      refine agree_fold es 0 ?_ ⟨rfl, fun _ _ => rfl, fun _ _ => rfl⟩
      intro k f hf hne
      simp only [Nat.zero_add] at hne
      rcases Nat.lt_trichotomy k j with hkj | rfl | hkj
      · have hdk : D k = false := by
          cases hd : D k with
          | false => rfl
          | true => rw [hd] at hne; simp [hkj] at hne
        rcases hpair k j f e hkj hf he with h | h
        · rw [hanc k h] at hdk; cases hdk
        · exact h.n1
      · rw [hD] at hne; simp at hne
      · have hdk : D k = true := by
          cases hd : D k with
          | true => rfl
          | false => rw [hd] at hne; simp at hne; omega
        exact (hap k f hf hdk hkj).n2
    refine ⟨h1.1.trans (by rw [← heq.1]), fun t ht => (h1.2.1 t ht).trans ?_, fun m hm => (h1.2.2 m hm).trans (heq.2 m).symm⟩
    rw [← heq.1]
  have hins : Eqv (stD (ins D j) es 0 (s0.tmps, s0.heap)) (app e (stD D es 0 (s0.tmps, s0.heap))) := by
    refine stD_ins hD es 0 _ (Nat.zero_le _) (by simpa using he) ?_
    intro k f hf hjk hdk
    simp only [Nat.zero_add] at hjk hdk
    exact (hap k f hf hdk hjk).i2
  have hclosed : ∀ k, ins D j k = true → ∀ x ∈ (anc ops.toList []).getD k [], ins D j x = true := by
    intro k hk x hx
    have : D x = true := by
      unfold ins at hk
      split at hk
      · rename_i hkj; subst hkj; exact hanc x hx
      · exact hI.closed k hk x hx
    unfold ins
    split
    · rfl
    · exact this
  have hw : Region.wanted e.o (yielded ops a.tmps) = e.b := by
    refine gdS_wanted (w := w) (G := G) (Z := Z) hok.gd fun j' want p t h1 h2 h3 => ?_
    have ht : t ∈ readsT ops.toList e.o := by
      unfold readsT
      rw [List.mem_append]
      refine .inr ?_
      unfold gdT
      rw [h1]
      have h2' : ops.toList[j']? = some p := by simpa using h2
      simp only [h2', h3]
      simp
    rw [← hag.2.1 t ht]
    exact hI.tr.at_ t
  unfold wpOpIn
  rw [hj]
  simp only [hw]
  have hold : ∀ n, c0 ≤ n → G n ≠ none → ∃ i f, es[i]? = some f ∧ ins D j i = true ∧ (rngN (c0 + 64 * i) n ∨ (f.s.ctr ≤ n ∧ n < f.s'.ctr)) := by
    intro n h1 h2
    obtain ⟨i, f, q1, q2, q3⟩ := hI.fr n h1 h2
    refine ⟨i, f, q1, ?_, q3⟩
    unfold ins
    split
    · rfl
    · exact q2
  cases hb : e.b with
  | true =>
    rw [if_pos rfl]
    refine hok.run hb a w G Z (stD D es 0 (s0.tmps, s0.heap)).2 ?_ hI.sr.hr (fun m hm => hag.2.2 m hm) ?_ ?_ ro m K Q ?_
    · refine ⟨?_, fun t => ?_⟩
      · rw [mask, keepT_len, ← hI.tr.len, hag.1]
      · rw [mask, getT_keepT]
        split
        · rename_i ht
          simp only [Nat.zero_add] at ht
          have : t ∈ readsT ops.toList e.o := by unfold readsT; rw [List.mem_append]; exact .inl ht
          rw [← hag.2.1 t this]
          exact hI.tr.at_ t
        · exact .top _
    · intro n hn
      cases hG : G n with
      | none => rfl
      | some ni =>
        obtain ⟨i, f, q1, q2, q3⟩ := hI.fr n (by have := hn.1; omega) (by rw [hG]; simp)
        have := hlt he
        rcases q3 with q3 | ⟨q3, q4⟩
        · have : i = j := by have := q3.1; have := q3.2; have := hn.1; have := hn.2; omega
          subst this
          rw [hD] at q2; cases q2
        · have := (chain_at hch i f q1).2.2.1
          have := hn.2
          omega
    · intro hu n hn
      cases hG : G n with
      | none => rfl
      | some ni =>
        obtain ⟨i, f, q1, q2, q3⟩ := hI.fr n (by have := hlt he; omega) (by rw [hG]; simp)
        have := hlt q1
        rcases q3 with q3 | ⟨q3, q4⟩
        · have := q3.2; omega
        · have hf3 : f.fp.1 = 3 := by
            rcases Nat.decEq f.fp.1 3 with h | h
            · have := (chain_at hch i f q1).1.nc h; omega
            · exact h
          rcases Nat.lt_trichotomy i j with hij | rfl | hij
          · have := chain_ctr hch i j f e q1 he hij; omega
          · rw [hD] at q2; cases q2
          · exact absurd ⟨hok.uc hb hu, hf3⟩ (hap i f q1 q2 hij).c
    · rintro u w' ⟨G', Z', s, hv⟩
      refine hK _ w' G' Z' ⟨hclosed, ?_, (put_defers _ _ _).trans hI.df, ?_, ?_⟩
      · rw [hins.1]
        exact (hI.tr.sr hI.sr.hr s).put hv e.o.dst
      · intro n h1 h2
        cases hG : G' n with
        | none => exact absurd hG h2
        | some ni =>
          rcases s.gn n ni hG with q | q
          · exact hold n h1 (by rw [q]; simp)
          · exact ⟨j, e, he, if_pos rfl, q⟩
      · refine SR.congr (h' := (app e (stD D es 0 (s0.tmps, s0.heap))).2) ?_ hins.2
        refine (hI.sr.trans s).weak ?_
        rintro n (hn | hn | ⟨hn, _⟩)
        · exact hn
        · have := hn.1; show c0 ≤ n; omega
        · have := hlt he; show c0 ≤ n; omega
  | false =>
    rw [if_neg (by simp)]
    obtain ⟨hv, hno, hcc⟩ := hok.sk hb
    refine ⟨fun _ _ => trivial, ?_⟩
    refine hK _ w G Z ⟨hclosed, ?_, (put_defers _ _ _).trans hI.df, hold, ?_⟩
    · rw [hins.1]
      exact hI.tr.put (by rw [hv]; exact .top _) e.o.dst
    · refine SR.congr hI.sr fun m => ?_
      rw [hins.2 m, hget_app_no (hno m)]

theorem draw_any (hL : es.map (·.o) = ops.toList) (hch : Chain g ops.toList c0 0 s0 es s1) (hc0 : c0 + 64 * es.length ≤ s0.ctr) (hbk : backE 0 ops.toList = true)
    (hpair : ∀ (i j : Nat) (e f : Rc), i < j → es[i]? = some e → es[j]? = some f → i ∈ (anc ops.toList []).getD j [] ∨ Apart ops.toList e f)
    {w0 : World} {G0 : Gh} {Z0 : Nat → Prop} {ro : Option Nat} {m : Nat} {Q : Exit → Act → World → Prop} (hQ : ∀ a w G Z, SRel dd s1 a w G Z → SR (c0 ≤ ·) w0 G0 Z0 s0.heap w G Z s1.heap → Q .normal a w) :
    ∀ (fuel : Nat) (listed : Array Bool) (a : Act) (w : World) (G : Gh) (Z : Nat → Prop), listed.size = ops.size → listed.toList.count false ≤ fuel →
      DI dd g ops c0 es s0 w0 G0 Z0 (fun k => listed.getD k false) a w G Z → wpAnyIn (FW ro) m g.P .any ops Q fuel listed a w := by
  have hen : es.length = ops.size := by rw [← Array.length_toList, ← hL, List.length_map]
  have hdone : ∀ (listed : Array Bool) (a : Act) (w : World) (G : Gh) (Z : Nat → Prop), (∀ k, k < ops.size → listed.getD k false = true) → DI dd g ops c0 es s0 w0 G0 Z0 (fun k => listed.getD k false) a w G Z → Q .normal a w := by
    intro listed a w G Z hall hI
    have he : Eqv (s1.tmps, s1.heap) (stD (fun k => listed.getD k false) es 0 (s0.tmps, s0.heap)) := by
      rw [stD_ext' (D' := fun _ => true) es 0 _ fun k hk => by simp only [Nat.zero_add]; exact hall k (by omega)]
      exact chain_end hch
    have hs : SR (c0 ≤ ·) w0 G0 Z0 s0.heap w G Z s1.heap := SR.congr hI.sr he.2
    refine hQ a w G Z ⟨?_, hs.hr, ?_, hI.df⟩ hs
    · rw [show s1.tmps = _ from he.1]; exact hI.tr
    · intro n hn
      cases hG : G n with
      | none => rfl
      | some ni =>
        have hle : s0.ctr ≤ s1.ctr := by
          cases es with
          | nil => rw [show s1 = s0 from hch]; exact Nat.le_refl _
          | cons e r =>
            have := chain_at hch 0 e rfl
            have := this.1.ct
            omega
        obtain ⟨i, e, q1, q2, q3⟩ := hI.fr n (by omega) (by rw [hG]; simp)
        have := (List.getElem?_eq_some_iff.1 q1).1
        obtain ⟨_, _, p3, p4⟩ := chain_at hch i e q1
        rcases q3 with q3 | q3
        · have := q3.2; omega
        · omega
  intro fuel
  induction fuel with
  | zero =>
    intro listed a w G Z hsz hcn hI
    have hall : ∀ k, k < ops.size → listed.getD k false = true := by
      intro k hk
      have hn : false ∉ listed.toList := fun h => by have := List.count_pos_iff.2 h; omega
      have hk' : k < listed.size := by omega
      simp only [Array.getD_eq_getD_getElem?, hk', Array.getElem?_eq_getElem, Option.getD_some]
      cases hb : listed[k] with
      | true => rfl
      | false => exact absurd (by rw [← hb]; simp) hn
    refine ⟨?_, hdone listed a w G Z hall hI⟩
    refine List.eq_nil_iff_forall_not_mem.2 fun j hj => ?_
    obtain ⟨h1, o, ho, _⟩ := mem_ready.1 hj
    have hj' : j < ops.size := (Array.getElem?_eq_some_iff.1 ho).1
    have := hall j hj'
    have hj2 : j < listed.size := by omega
    simp only [Array.getD_eq_getD_getElem?, hj2, Array.getElem?_eq_getElem, Option.getD_some] at h1 this
    rw [this] at h1; cases h1
  | succ fuel ih =>
    intro listed a w G Z hsz hcn hI
    refine ⟨fun hr => ?_, fun j hj => ?_⟩
    · refine hdone listed a w G Z ?_ hI
      intro k
      induction k using Nat.strongRecOn with
      | _ k ihk =>
        intro hk
        cases hb : listed.getD k false with
        | true => rfl
        | false =>
          exfalso
          have hmem : k ∈ Region.ready .any ops listed := by
            rw [mem_ready]
            have hk2 : k < listed.size := by omega
            refine ⟨?_, ops[k], Array.getElem?_eq_getElem hk, fun e he hbd => ?_⟩
            · simp only [Array.getD_eq_getD_getElem?, hk2, Array.getElem?_eq_getElem, Option.getD_some] at hb ⊢
              exact hb
            · have := backE_spec hbk k ops[k] (by simp [hk]) e he hbd
              exact ihk e.on (by omega) (by omega)
          rw [hr] at hmem
          cases hmem
    · obtain ⟨h1, o, ho, hrd⟩ := mem_ready.1 hj
      have hj' : j < ops.size := (Array.getElem?_eq_some_iff.1 ho).1
      have hj2 : j < listed.size := by omega
      have hDf : listed.getD j false = false := by
        simp only [Array.getD_eq_getD_getElem?, hj2, Array.getElem?_eq_getElem, Option.getD_some] at h1 ⊢
        exact h1
      refine draw_step hL hch hc0 hpair hI ho hDf hrd ?_
      intro a' w' G' Z' hI'
      refine ih (listed.setIfInBounds j true) a' w' G' Z' (by simpa using hsz) ?_ ?_
      · have hl : listed.toList[j]? = some false := by
          simp only [Array.getD_eq_getD_getElem?, hj2, Array.getElem?_eq_getElem, Option.getD_some] at h1
          simp [hj2, h1]
        have := count_set listed.toList j hl
        simp only [Array.toList_setIfInBounds]
        omega
      · have hfun : (fun k => (listed.setIfInBounds j true).getD k false) = ins (fun k => listed.getD k false) j := by
          funext k
          unfold ins
          split
          · rename_i hkj; subst hkj; simp [hj2]
          · rename_i hkj; exact getD_set_ne false (Ne.symm hkj)
        rw [hfun]
        exact hI'

/-- A region. -/
theorem evReg_ok {R : Type} (hg : CfgOK g) {cin : CallIn R} (hc : CinOK g.P cin) {n : Nat} {dr : Bool} {s : St} {k : St → Option R} {r : R} (h : evReg g cin n ops.toList dr s k = some r) :
    ∃ s', k s' = some r ∧ s.ctr ≤ s'.ctr ∧ ∀ {dd : List Deferred} a w G Z, SRel dd s a w G Z → ∀ (ro : Option Nat) (m : Nat) (id : Nat) (Q : Exit → Act → World → Prop), (∀ a' w' G' Z', SRel dd s' a' w' G' Z' → SR (s.ctr ≤ ·) w G Z s.heap w' G' Z' s'.heap → Q .normal a' w') →
      (Code.region id ops dr).wpIn (FW ro) m g.P Q a w := by
  unfold evReg at h
  split at h
  · obtain ⟨s', hk, hle, hw⟩ := evOps_ok hg hc ops.toList 0 _ h (by simp)
    refine ⟨s', hk, Nat.le_trans (Nat.le_add_right _ _) hle, fun a w G Z hs ro m id Q hQ => wpIn_region_list ?_⟩
    refine hw a w G Z ⟨hs.tr, hs.hr, fun n hn => hs.fr n (by simp only at hn; omega), hs.df⟩ (fun m h1 _ => hs.fr m (by omega)) ro m Q hQ
  · split at h
    · rename_i hod
      obtain ⟨es, s', h1, h2, h3, h4⟩ := evDraw_chain hg hc ops.toList 0 [] _ h
      simp only [List.nil_append] at h3
      have hen : es.length = ops.toList.length := by rw [← h1, List.length_map]
      have hbk : backE 0 ops.toList = true := by unfold okDraw at hod; simp only [Bool.and_eq_true] at hod; exact hod.1
      have hat := fun k e he => chain_at h2 k e he
      have hpair : ∀ (i j : Nat) (e f : Rc), i < j → es[i]? = some e → es[j]? = some f → i ∈ (anc ops.toList []).getD j [] ∨ Apart ops.toList e f := by
        intro i j e f hij he hf
        have hLi : ∀ {k : Nat} {e : Rc}, es[k]? = some e → ops.toList[k]? = some e.o := by
          intro k e he
          rw [← h1, List.getElem?_map, he]; rfl
        rcases okDraw_spec hod hij (hLi he) (hLi hf) with q | q
        · exact .inl q
        · rcases okFps_spec h3 hij (x := e.fp) (y := f.fp) (by rw [List.getElem?_map, he]; rfl) (by rw [List.getElem?_map, hf]; rfl) with p | p
          · exact .inl p
          · obtain ⟨e1, _, e3, _⟩ := hat i e he
            obtain ⟨f1, _, f3, _⟩ := hat j f hf
            simp only [Nat.zero_add] at e1 f1
            have := (List.getElem?_eq_some_iff.1 he).1
            have := (List.getElem?_eq_some_iff.1 hf).1
            simp only at e3 f3
            exact .inr (apart_of e1 f1 (by omega) (by omega) (by omega) e3 f3 q p)
      have hle : s.ctr ≤ s'.ctr := by
        cases es with
        | nil => rw [show s' = _ from h2]; exact Nat.le_add_right _ _
        | cons e r =>
          obtain ⟨q1, _, q3, q4⟩ := hat 0 e rfl
          have := q1.ct
          simp only at q3
          omega
      refine ⟨s', h4, hle, fun a w G Z hs ro m id Q hQ => ?_⟩
      refine wpIn_region_any hg.mixed ?_
      have hex := ext_drew w
      have hr' : HR w.drew G Z s.heap := HR.drew hs.hr
      have htr' : TR w.drew G Z s.tmps a.tmps := ⟨hs.tr.len, fun t => (hs.tr.at_ t).mono hex (fun _ _ _ h => h) (fun _ _ h => h) fun _ h => h⟩
      refine draw_any (dd := a.defers) h1 h2 (by simp only; omega) hbk hpair (w0 := w.drew) (G0 := G) (Z0 := Z) ?_ ops.size (Array.replicate ops.size false) a w.drew G Z (by simp) (by simp) ?_
      · intro a' w' G' Z' hs' hsr
        exact hQ a' w' G' Z' ⟨hs'.tr, hs'.hr, hs'.fr, hs'.df.trans hs.df⟩ (SR.drew hsr)
      · have hfun : ∀ k, (Array.replicate ops.size false).getD k false = false := by
          intro k
          simp only [Array.getD_eq_getD_getElem?, Array.getElem?_replicate]
          split <;> rfl
        refine ⟨fun j hj => (by rw [hfun j] at hj; cases hj), ?_, rfl, ?_, ?_⟩
        · rw [stD_none _ _ _ fun k _ => hfun k]; exact htr'
        · intro n hn hne; exact absurd (hs.fr n hn) hne
        · rw [stD_none _ _ _ fun k _ => hfun k]; exact .refl hr'
    · cases h
end
end Go.Eng
