/- A part of the evaluator of the program and of its proof: texts E39, E40, E41, E42. -/
import Derived.Test.YtmokabokdhhdiaaGreatEngG
import Derived.LoopNIn
set_option linter.unusedVariables false
set_option linter.unusedSimpArgs false
namespace Go.Eng
open Go.RowKit

/-! ### Names counted anew -/

section
variable {w : World} {G : Gh} {Z : Nat → Prop}

def canG (G : Gh) (base : Nat) (ns : List Nat) : Gh := fun m => if m < base then G m else (ns[m - base]?).bind G
theorem canG_new {base : Nat} {ns : List Nat} (n m : Nat) (h : newN base ns n = some m) (ni : NI) (hn : G n = some ni) : canG G base ns m = some ni := by
  unfold newN at h
  unfold canG
  split at h
  · rename_i hb
    cases h
    rw [if_pos (by simpa [Nat.blt_eq] using hb)]
    exact hn
  · obtain ⟨h1, h2⟩ := posN_some h
    rw [if_neg (by omega), h2]
    exact hn

theorem canH {base : Nat} {ns : List Nat} {h : AH} {m : Nat} {bl : Blk} {f : Nat → Option Nat} (hh : hget (lowH f base h ++ highH f h base ns) m = some bl) :
    ∃ n b0, hget h n = some b0 ∧ bl = renB f b0 ∧ canG G base ns m = G n ∧ ((m < base ∧ n = m) ∨ (base ≤ m ∧ ns[m - base]? = some n)) := by
  rw [hget_app, hget_lowH, hget_highH] at hh
  by_cases hm : m < base
  · rw [if_pos hm, if_neg (by omega)] at hh
    cases e : hget h m with
    | none => rw [e] at hh; simp at hh
    | some b =>
      rw [e] at hh
      simp only [Option.map_some, Option.some.injEq] at hh
      exact ⟨m, b, e, hh.symm, if_pos hm, .inl ⟨hm, rfl⟩⟩
  · rw [if_neg hm, if_pos (by omega)] at hh
    cases e : ns[m - base]? with
    | none => rw [e] at hh; simp at hh
    | some n =>
      rw [e] at hh
      simp only [Option.bind_some] at hh
      cases e2 : hget h n with
      | none => rw [e2] at hh; simp at hh
      | some b =>
        rw [e2] at hh
        simp only [Option.map_some, Option.some.injEq] at hh
        exact ⟨n, b, e2, hh.symm, by unfold canG; rw [if_neg hm, e]; rfl, .inr ⟨by omega, rfl⟩⟩

theorem canon_ok {dd : List Deferred} {base : Nat} {keep : List Nat} {s : St} {a : Act} (hs : SRel dd s a w G Z) {w0 : World} {G0 : Gh} {Z0 : Nat → Prop} {h0 : AH} (hG0 : ∀ n, base ≤ n → G0 n = none) (hsr : SR (base ≤ ·) w0 G0 Z0 h0 w G Z s.heap) :
    base ≤ (canon base keep s).ctr ∧ ∃ G', SRel dd (canon base keep s) a w G' Z ∧ SR (base ≤ ·) w0 G0 Z0 h0 w G' Z (canon base keep s).heap := by
  unfold canon
  simp only
  obtain ⟨hnd, hbs⟩ := reach_nodup s.heap base 10000 (rootsH base s.heap ++ namesL (keepT keep 0 s.tmps)) [] (by simp) (by simp)
  generalize reach s.heap base 10000 (rootsH base s.heap ++ namesL (keepT keep 0 s.tmps)) [] = ns at hnd hbs
  have hg : ∀ n m, newN base ns n = some m → ∀ ni, G n = some ni → canG G base ns m = some ni := fun n m h ni hn => canG_new n m h ni hn
  have hinj : ∀ n m p q, ((n < base ∧ p = n) ∨ (base ≤ n ∧ ns[n - base]? = some p)) → ((m < base ∧ q = m) ∨ (base ≤ m ∧ ns[m - base]? = some q)) → n ≠ m → p ≠ q := by
    rintro n m p q (⟨h1, rfl⟩ | ⟨h1, h2⟩) (⟨h3, rfl⟩ | ⟨h3, h4⟩) hne rfl
    · exact hne rfl
    · have := hbs _ (List.mem_of_getElem? h4); omega
    · have := hbs _ (List.mem_of_getElem? h2); omega
    · have h5 := (List.getElem?_eq_some_iff.1 h2).1
      have := (List.getElem?_inj h5 hnd).1 (h2.trans h4.symm)
      omega
  have hhr : HR w (canG G base ns) Z (lowH (newN base ns) base s.heap ++ highH (newN base ns) s.heap base ns) := by
    refine ⟨?_, ?_, ?_, hs.hr.zlt⟩
    · intro nm bl hh
      obtain ⟨n, b0, h1, rfl, h3, h4⟩ := canH (G := G) hh
      obtain ⟨ni, q1, q2⟩ := hs.hr.blk n b0 h1
      exact ⟨ni, by rw [h3]; exact q1, q2.ren _ hg⟩
    · intro n m bn bm ni mi b o o' h1 h2 h3 h4 h5 h6 h7
      obtain ⟨n', b0, p1, rfl, p3, p4⟩ := canH (G := G) h1
      obtain ⟨m', b1, q1, rfl, q3, q4⟩ := canH (G := G) h3
      rw [p3] at h5
      rw [q3] at h6
      rw [wr_ren] at h2
      exact hs.hr.sep n' m' b0 b1 ni mi b o o' p1 h2 q1 (hinj n m n' m' p4 q4 h4) h5 h6 h7
    · intro n bn ni b o h1 h2 h3
      obtain ⟨n', b0, p1, rfl, p3, p4⟩ := canH (G := G) h1
      rw [p3] at h3
      rw [wr_ren] at h2
      exact hs.hr.zsep n' b0 ni b o p1 h2 h3
  refine ⟨Nat.le_add_right _ _, canG G base ns, ⟨⟨?_, ?_⟩, hhr, ?_, hs.df⟩, ⟨hsr.ext, ?_, ?_, hsr.zm, hsr.zn, ?_, ?_, hhr⟩⟩
  · rw [renL_len, keepT_len]; exact hs.tr.len
  · intro t
    rw [getT_renL, getT_keepT]
    refine VR.ren _ hg ?_
    split
    · exact hs.tr.at_ t
    · exact .top _
  · intro n hn
    simp only at hn
    unfold canG
    rw [if_neg (by omega), List.getElem?_eq_none (by omega)]
    rfl
  · intro nm ni hn
    have hlt : nm < base := Nat.lt_of_not_le fun hle => by rw [hG0 nm hle] at hn; cases hn
    unfold canG
    rw [if_pos hlt]
    exact hsr.gm nm ni hn
  · intro nm ni hn
    unfold canG at hn
    split at hn
    · exact hsr.gn nm ni hn
    · rename_i h; exact .inr (by show base ≤ nm; omega)
  · intro nm bl ni b o h1 h2 h3
    obtain ⟨n', b0, p1, rfl, p3, p4⟩ := canH (G := G) h1
    rw [p3] at h2
    rw [wr_ren]
    exact hsr.own n' b0 ni b o p1 h2 h3
  · intro nm bl h1
    obtain ⟨n', b0, p1, rfl, p3, p4⟩ := canH (G := G) h1
    rcases p4 with ⟨p4, rfl⟩ | ⟨p4, p5⟩
    · exact hsr.hn _ b0 p1
    · exact .inr p4
end

/-! ### Code -/

def exOf : Ex → Exit
  | .norm => .normal
  | .ret => .ret
  | .exit i => .exit i

def BodyT (dd : List Deferred) (base : Nat) (w0 : World) (G0 : Gh) (Z0 : Nat → Prop) (h0 : AH) (e : Ex) (s' : St) (x : Exit) (a' : Act) (w' : World) : Prop :=
  x = exOf e ∧ ∃ G' Z', SRel dd s' a' w' G' Z' ∧ SR (base ≤ ·) w0 G0 Z0 h0 w' G' Z' s'.heap

def EvT (P : Program) (base : Nat) (c : Code) (s : St) (e : Ex) (s' : St) : Prop :=
  base ≤ s'.ctr ∧ ∀ {dd : List Deferred} a w G Z, SRel dd s a w G Z → ∀ w0 G0 Z0 h0, (∀ n, base ≤ n → G0 n = none) → SR (base ≤ ·) w0 G0 Z0 h0 w G Z s.heap → ∀ (ro : Option Nat) (m : Nat), c.wpIn (FW ro) m P (BodyT dd base w0 G0 Z0 h0 e s') a w

theorem loopN_ok {R : Type} {P : Program} {base : Nat} {c : Code} {keep : List Nat} {body : St → (Ex → St → Option R) → Option R}
    (hb : ∀ s k r, body s k = some r → base ≤ s.ctr → ∃ e s', k e s' = some r ∧ EvT P base c s e s') {k : Ex → St → Option R} {r : R} :
    ∀ (n : Nat) (s : St), loopN body (canon base keep) n s k = some r → base ≤ s.ctr → ∃ e s', k e s' = some r ∧ base ≤ s'.ctr ∧
      ∀ {dd : List Deferred} a w G Z, SRel dd s a w G Z → ∀ w0 G0 Z0 h0, (∀ n, base ≤ n → G0 n = none) → SR (base ≤ ·) w0 G0 Z0 h0 w G Z s.heap → ∀ (ro : Option Nat) (m : Nat), Code.roundsIn (FW ro) m P c (BodyT dd base w0 G0 Z0 h0 e s') n a w
  | 0, s, h, _ => by simp [loopN] at h
  | n + 1, s, h, hle => by
    simp only [loopN] at h
    obtain ⟨e1, s1, h1, hle1, hw1⟩ := hb _ _ _ h hle
    have hex : ∀ e : Ex, e ≠ .norm → e1 = e → k e s1 = some r → ∃ e s', k e s' = some r ∧ base ≤ s'.ctr ∧
      ∀ {dd : List Deferred} a w G Z, SRel dd s a w G Z → ∀ w0 G0 Z0 h0, (∀ n, base ≤ n → G0 n = none) → SR (base ≤ ·) w0 G0 Z0 h0 w G Z s.heap → ∀ (ro : Option Nat) (m : Nat), Code.roundsIn (FW ro) m P c (BodyT dd base w0 G0 Z0 h0 e s') (n + 1) a w := by
      rintro e hne rfl hk
      refine ⟨e1, s1, hk, hle1, fun a w G Z hs w0 G0 Z0 h0 hG0 hsr ro m => ?_⟩
      rw [roundsIn_succ]
      refine wpIn_mono (hw1 a w G Z hs w0 G0 Z0 h0 hG0 hsr ro m) ?_
      rintro x a' w' ⟨rfl, hx⟩
      cases e1 with
      | norm => exact absurd rfl hne
      | ret => exact ⟨rfl, hx⟩
      | exit i => exact ⟨rfl, hx⟩
    cases e1 with
    | ret => exact hex .ret (by simp) rfl h1
    | exit i => exact hex (.exit i) (by simp) rfl h1
    | norm =>
      have hcle : base ≤ (canon base keep s1).ctr := by unfold canon; exact Nat.le_add_right _ _
      obtain ⟨e, s', hk, hle2, hw2⟩ := loopN_ok hb n _ h1 hcle
      refine ⟨e, s', hk, hle2, fun a w G Z hs w0 G0 Z0 h0 hG0 hsr ro m => ?_⟩
      rw [roundsIn_succ]
      refine wpIn_mono (hw1 a w G Z hs w0 G0 Z0 h0 hG0 hsr ro m) ?_
      rintro x a' w' ⟨rfl, G1, Z1, hs1, hsr1⟩
      obtain ⟨_, G2, hs2, hsr2⟩ := canon_ok (keep := keep) hs1 hG0 hsr1
      exact hw2 a' w' G2 Z1 hs2 w0 G0 Z0 h0 hG0 hsr2 ro m

/-! ### States that say less -/

structure NrmOK (base : Nat) (s t : St) : Prop where
  ct : base ≤ s.ctr → base ≤ t.ctr
  ok : ∀ {dd : List Deferred} a w G Z, SRel dd s a w G Z → base ≤ s.ctr → ∀ w0 G0 Z0 h0, (∀ n, base ≤ n → G0 n = none) → SR (base ≤ ·) w0 G0 Z0 h0 w G Z s.heap →
    ∃ G' Z', SRel dd t a w G' Z' ∧ SR (base ≤ ·) w0 G0 Z0 h0 w G' Z' t.heap
theorem NrmOK.refl {base : Nat} {s : St} : NrmOK base s s := ⟨id, fun a w G Z hs _ w0 G0 Z0 h0 _ hsr => ⟨G, Z, hs, hsr⟩⟩
theorem NrmOK.trans {base : Nat} {s t u : St} (h : NrmOK base s t) (k : NrmOK base t u) : NrmOK base s u :=
  ⟨fun hb => k.ct (h.ct hb), fun a w G Z hs hb w0 G0 Z0 h0 hG hsr => by
    obtain ⟨G1, Z1, h1, h2⟩ := h.ok a w G Z hs hb w0 G0 Z0 h0 hG hsr
    exact k.ok a w G1 Z1 h1 (h.ct hb) w0 G0 Z0 h0 hG h2⟩
theorem NrmOK.canon {base : Nat} {keep : List Nat} {s : St} : NrmOK base s (canon base keep s) :=
  ⟨fun _ => by unfold Eng.canon; exact Nat.le_add_right _ _, fun a w G Z hs hb w0 G0 Z0 h0 hG hsr => by
    obtain ⟨_, G', h1, h2⟩ := canon_ok (keep := keep) hs hG hsr
    exact ⟨G', Z, h1, h2⟩⟩
theorem immV_ok {w : World} {G : Gh} {Z : Nat → Prop} {h h' : AH} {c : Cd} {v v' : AV} {u : Value} (hr : HR w G Z h) (hv : VR w G Z v u) (hi : immV h c v = some (v', h')) :
    ∃ Z', SR (fun _ => False) w G Z h w G Z' h' ∧ VR w G Z' v' u := by
  unfold immV at hi
  split at hi
  · cases hi; cases hv; exact ⟨Z, .refl hr, .imm0 c none 0⟩
  · cases hi; cases hv; exact ⟨Z, .refl hr, .imm0 c _ 0⟩
  · rename_i nm c0 off len tl
    split at hi
    · rename_i d l hg
      split at hi
      · rename_i l' hl
        cases hi
        obtain ⟨e, rfl⟩ := castL_some hl
        subst e
        obtain ⟨Z', hs⟩ := SR.frz hr hg
        refine ⟨Z', hs, ?_⟩
        exact (own_SC hs.hr (d := d) (l := l) (by unfold rowL; rw [hget_hset, if_pos rfl]; simp [castL]) (hs.vr hr hv)).imm
      · cases hi
    · rename_i d l hg
      split at hi
      · rename_i l' hl
        cases hi
        exact ⟨Z, .refl hr, (own_SC hr (by unfold rowL; rw [hg]; exact hl) hv).imm⟩
      · cases hi
    · cases hi
  · cases hi
theorem nr1_ok {base : Nat} {x : Nr} {s : St} : NrmOK base s (nr1 x s) := by
  cases x with
  | slot i c =>
    simp only [nr1]
    split
    · rename_i v h hi
      refine ⟨id, fun a w G Z hs hb w0 G0 Z0 h0 hG hsr => ?_⟩
      obtain ⟨Z', hs1, hv⟩ := immV_ok hs.hr (hs.tr.at_ i) hi
      refine ⟨G, Z', ⟨⟨?_, fun t => ?_⟩, hs1.hr, hs.fr, hs.df⟩, (hsr.trans hs1).weak fun n hn => hn.elim id False.elim⟩
      · simp only [setT_length]; exact hs.tr.len
      · simp only [getT_setT]
        split
        · rename_i e; rw [e.1]; exact hv
        · exact hs1.vr hs.hr (hs.tr.at_ t)
    · exact .refl
  | cell i j c =>
    simp only [nr1]
    split
    · rename_i nm off _
      split
      · rename_i cs hcs
        split
        · rename_i v h hi
          split
          · rename_i cs' hcs'
            refine ⟨id, fun a w G Z hs hb w0 G0 Z0 h0 hG hsr => ?_⟩
            obtain ⟨ni, q1, b, o, vs, q2, q3, q4, q5, q6⟩ := hs.hr.blk nm _ hcs
            by_cases hj : off + j < cs.length
            · obtain ⟨Z', hs1, hv⟩ := immV_ok hs.hr (q4.vr _ hj) hi
              obtain ⟨ni', p1, b', o', vs', p2, p3, p4, p5, p6⟩ := hs1.hr.blk nm _ hcs'
              rw [q1] at p1
              cases p1
              rw [q2] at p2
              cases p2
              have hj' : off + j < cs'.length := by omega
              have hvv : vs' (off + j) = vs (off + j) := by
                have := (p4.cell _ hj').symm.trans (q4.cell _ hj)
                exact Option.some.inj this
              have hs2 := SR.upd1 (bl' := .exp (setT cs' (off + j) v)) hs1.hr hcs' rfl q1 q2 (.refl _ _) rfl
                ⟨b, o, vs', q2, by rw [setT_length]; exact p3, ⟨fun k hk => p4.cell k (by rwa [setT_length] at hk), fun k hk => p4.one k (by rwa [setT_length] at hk), fun k hk => by
                  rw [setT_length] at hk
                  rw [getT_setT]
                  split
                  · rename_i e
                    rw [e.1, hvv]
                    exact hv
                  · exact p4.vr k hk⟩, p5, p6⟩
              exact ⟨G, Z', ⟨⟨hs.tr.len, fun t => hs1.vr hs.hr (hs.tr.at_ t)⟩, hs2.hr, hs.fr, hs.df⟩, ((hsr.trans hs1).trans hs2).weak fun n hn => hn.elim (fun h => h.elim id False.elim) False.elim⟩
            · exfalso
              rw [getT_ge _ _ (by omega)] at hi
              simp [immV] at hi
          · exact .refl
        · exact .refl
      · exact .refl
    · exact .refl
theorem nrA_ok {base : Nat} : ∀ (l : List Nr) {s : St}, NrmOK base s (nrA l s)
  | [], s => .refl
  | x :: r, s => nr1_ok.trans (nrA_ok r)

def loopsOf : Nat → Code → List (Nat × Code)
  | bid, .seq a b => loopsOf bid a ++ loopsOf bid b
  | bid, .cond _ a b => loopsOf bid a ++ loopsOf bid b
  | _, .block id b => loopsOf id b
  | bid, .loop b => (bid, b) :: loopsOf bid b
  | _, _ => []
def LSpecOK (P : Program) (c : Code) (ls : LSpec) : Prop := ∀ base s x p, ls.dec base s = some x → (ls.out x).leaf p → EvT P base (.loop c) s p.1 p.2
/-- The loops of a piece of code are as they are told. -/
def LpOK (g : Cfg) (f bid : Nat) (c : Code) : Prop := ∀ p ∈ loopsOf bid c, ∀ ls, g.lspec f p.1 = some ls → LSpecOK g.P p.2 ls
def LpAll (g : Cfg) : Prop := ∀ f (fn : Func) c, g.P.funcs[f]? = some fn → fn.body = some c → LpOK g f 0 c

theorem ev_ok {R : Type} {g : Cfg} (hg : CfgOK g) {cin : CallIn R} (hc : CinOK g.P cin) {n f base : Nat} : ∀ (c : Code) (bid : Nat) (s : St) (k : Ex → St → Option R) (r : R), LpOK g f bid c → ev g cin n f base bid c s k = some r → base ≤ s.ctr →
    ∃ e s', k e s' = some r ∧ EvT g.P base c s e s' := by
  intro c
  induction c with
  | skip =>
    intro bid s k r hL h hle
    simp only [ev] at h
    exact ⟨.norm, s, h, hle, fun a w G Z hs w0 G0 Z0 h0 hG0 hsr ro m => wpIn_skip ⟨rfl, G, Z, hs, hsr⟩⟩
  | region id ops dr =>
    intro bid s k r hL h hle
    simp only [ev] at h
    have hn := nrA_ok (base := base) (g.hook f id) (s := s)
    have hle1 := hn.ct hle
    obtain ⟨s', hk, hle2, hw⟩ := evReg_ok hg hc h
    refine ⟨.norm, s', hk, Nat.le_trans hle1 hle2, fun a w G Z hs w0 G0 Z0 h0 hG0 hsr ro m => ?_⟩
    obtain ⟨G1, Z1, hs, hsr⟩ := hn.ok a w G Z hs hle w0 G0 Z0 h0 hG0 hsr
    refine hw a w G1 Z1 hs ro m id _ ?_
    intro a' w' G' Z' hs' hsr'
    exact ⟨rfl, G', Z', hs', (hsr.trans hsr').weak fun m hm => hm.elim (fun h => h) fun hm => Nat.le_trans hle1 hm⟩
  | seq x y ihx ihy =>
    intro bid s k r hL h hle
    simp only [ev] at h
    obtain ⟨e1, s1, h1, hle1, hw1⟩ := ihx _ _ _ _ (fun p hp => hL p (List.mem_append_left _ hp)) h hle
    cases e1 with
    | norm =>
      obtain ⟨e2, s2, h2, hle2, hw2⟩ := ihy _ _ _ _ (fun p hp => hL p (List.mem_append_right _ hp)) h1 hle1
      refine ⟨e2, s2, h2, hle2, fun a w G Z hs w0 G0 Z0 h0 hG0 hsr ro m => wpIn_seq ?_⟩
      refine wpIn_mono (hw1 a w G Z hs w0 G0 Z0 h0 hG0 hsr ro m) ?_
      rintro q a' w' ⟨rfl, G1, Z1, hs1, hsr1⟩
      exact hw2 a' w' G1 Z1 hs1 w0 G0 Z0 h0 hG0 hsr1 ro m
    | ret =>
      refine ⟨.ret, s1, h1, hle1, fun a w G Z hs w0 G0 Z0 h0 hG0 hsr ro m => wpIn_seq ?_⟩
      refine wpIn_mono (hw1 a w G Z hs w0 G0 Z0 h0 hG0 hsr ro m) ?_
      rintro q a' w' ⟨rfl, hx⟩
      exact ⟨rfl, hx⟩
    | exit i =>
      refine ⟨.exit i, s1, h1, hle1, fun a w G Z hs w0 G0 Z0 h0 hG0 hsr ro m => wpIn_seq ?_⟩
      refine wpIn_mono (hw1 a w G Z hs w0 G0 Z0 h0 hG0 hsr ro m) ?_
      rintro q a' w' ⟨rfl, hx⟩
      exact ⟨rfl, hx⟩
  | cond c x y ihx ihy =>
    intro bid s k r hL h hle
    simp only [ev] at h
    split at h
    · rename_i t hv
      have hcv : ∀ {dd : List Deferred} a w G Z, SRel dd s a w G Z → a.eval c = .bool t := by
        intro dd a w G Z hs
        have := ev1_ok hs.tr c
        rw [hv] at this
        obtain ⟨u, hu⟩ : ∃ u, u = a.eval c := ⟨_, rfl⟩
        rw [← hu] at this ⊢
        cases this
        rfl
      cases t with
      | true =>
        obtain ⟨e1, s1, h1, hle1, hw1⟩ := ihx _ _ _ _ (fun p hp => hL p (List.mem_append_left _ hp)) h hle
        exact ⟨e1, s1, h1, hle1, fun a w G Z hs w0 G0 Z0 h0 hG0 hsr ro m => wpIn_cond_true (hcv a w G Z hs) (hw1 a w G Z hs w0 G0 Z0 h0 hG0 hsr ro m)⟩
      | false =>
        obtain ⟨e1, s1, h1, hle1, hw1⟩ := ihy _ _ _ _ (fun p hp => hL p (List.mem_append_right _ hp)) h hle
        exact ⟨e1, s1, h1, hle1, fun a w G Z hs w0 G0 Z0 h0 hG0 hsr ro m => wpIn_cond_false (hcv a w G Z hs) (hw1 a w G Z hs w0 G0 Z0 h0 hG0 hsr ro m)⟩
    · cases h
  | block id b ih =>
    intro bid s k r hL h hle
    simp only [ev] at h
    obtain ⟨e1, s1, h1, hle1, hw1⟩ := ih _ _ _ _ hL h hle
    cases e1 with
    | norm =>
      refine ⟨.norm, s1, h1, hle1, fun a w G Z hs w0 G0 Z0 h0 hG0 hsr ro m => wpIn_block ?_⟩
      refine wpIn_mono (hw1 a w G Z hs w0 G0 Z0 h0 hG0 hsr ro m) ?_
      rintro q a' w' ⟨rfl, hx⟩
      exact ⟨rfl, hx⟩
    | ret =>
      refine ⟨.ret, s1, h1, hle1, fun a w G Z hs w0 G0 Z0 h0 hG0 hsr ro m => wpIn_block ?_⟩
      refine wpIn_mono (hw1 a w G Z hs w0 G0 Z0 h0 hG0 hsr ro m) ?_
      rintro q a' w' ⟨rfl, hx⟩
      exact ⟨rfl, hx⟩
    | exit j =>
      simp only at h1
      split at h1
      · rename_i hj
        have hj' : j = id := by simpa using hj
        refine ⟨.norm, s1, h1, hle1, fun a w G Z hs w0 G0 Z0 h0 hG0 hsr ro m => wpIn_block ?_⟩
        refine wpIn_mono (hw1 a w G Z hs w0 G0 Z0 h0 hG0 hsr ro m) ?_
        rintro q a' w' ⟨rfl, hx⟩
        simp only [exOf, Exit.inBlock, hj', if_true]
        exact ⟨rfl, hx⟩
      · rename_i hj
        have hj' : j ≠ id := beq_false hj
        refine ⟨.exit j, s1, h1, hle1, fun a w G Z hs w0 G0 Z0 h0 hG0 hsr ro m => wpIn_block ?_⟩
        refine wpIn_mono (hw1 a w G Z hs w0 G0 Z0 h0 hG0 hsr ro m) ?_
        rintro q a' w' ⟨rfl, hx⟩
        simp only [exOf, Exit.inBlock, hj', if_false]
        exact ⟨rfl, hx⟩
  | loop b ih =>
    intro bid s k r hL h hle
    simp only [ev] at h
    have hcle : base ≤ (canon base (g.keep f bid) s).ctr := by unfold canon; exact Nat.le_add_right _ _
    split at h
    · rename_i ls hls
      split at h
      · rename_i x hx
        obtain ⟨p, hlf, hp⟩ := Out.k_some h
        have hE := hL (bid, b) (List.mem_cons_self) ls hls base _ x p hx hlf
        refine ⟨p.1, p.2, hp, hE.1, fun a w G Z hs w0 G0 Z0 h0 hG0 hsr ro m => ?_⟩
        obtain ⟨_, G2, hs2, hsr2⟩ := canon_ok (keep := g.keep f bid) hs hG0 hsr
        exact hE.2 a w G2 Z hs2 w0 G0 Z0 h0 hG0 hsr2 ro m
      · cases h
    · obtain ⟨e, s', hk, hle2, hw⟩ := loopN_ok (fun s k r h hle => ih bid s k r (fun p hp => hL p (List.mem_cons_of_mem _ hp)) h hle) n _ h hcle
      refine ⟨e, s', hk, hle2, fun a w G Z hs w0 G0 Z0 h0 hG0 hsr ro m => ?_⟩
      obtain ⟨_, G2, hs2, hsr2⟩ := canon_ok (keep := g.keep f bid) hs hG0 hsr
      exact wpIn_loop_rounds n (hw a w G2 Z hs2 w0 G0 Z0 h0 hG0 hsr2 ro m)
  | exit id =>
    intro bid s k r hL h hle
    simp only [ev] at h
    exact ⟨.exit id, s, h, hle, fun a w G Z hs w0 G0 Z0 h0 hG0 hsr ro m => wpIn_exit ⟨rfl, G, Z, hs, hsr⟩⟩
  | ret =>
    intro bid s k r hL h hle
    simp only [ev] at h
    exact ⟨.ret, s, h, hle, fun a w G Z hs w0 G0 Z0 h0 hG0 hsr ro m => wpIn_ret ⟨rfl, G, Z, hs, hsr⟩⟩
  | _ => intro bid s k r hL h hle; simp only [ev] at h; cases h
end Go.Eng

set_option linter.unusedVariables false
set_option linter.unusedSimpArgs false
namespace Go.Eng
open Go.RowKit

/-! ### Calls -/

section
variable {w : World} {G : Gh} {Z : Nat → Prop}

theorem SR.bound {N : Nat → Prop} {h h' : AH} {w' : World} {G' : Gh} {Z' : Nat → Prop} (s : SR N w G Z h w' G' Z' h') {c : Nat} (hf : ∀ n, c ≤ n → G' n = none) : SR (fun n => N n ∧ n < c) w G Z h w' G' Z' h' :=
  { s with
    gn := fun nm ni hn => (s.gn nm ni hn).imp id fun hN => ⟨hN, Nat.lt_of_not_le fun hle => by rw [hf nm hle] at hn; cases hn⟩
    hn := fun nm bl hh => (s.hn nm bl hh).imp id fun hN => by
      obtain ⟨ni, q1, _⟩ := s.hr.blk nm bl hh
      exact ⟨hN, Nat.lt_of_not_le fun hle => by rw [hf nm hle] at q1; cases q1⟩ }

theorem tops_at (n j : Nat) : getT (tops n) j = .top := by
  unfold tops
  rw [getT_getElem?, List.getElem?_replicate]
  split <;> rfl

def resSem (tmps : Array Value) : ResultVar → Sem Value
  | .tmp t => pure (tmps.getD t undef)
  | .cell a t => do loadVar t (← asAddr (tmps.getD a undef))

theorem res1_ok {dd : List Deferred} {g : Cfg} {s : St} {a : Act} (hs : SRel dd s a w G Z) {rv : ResultVar} {v : AV} (h : res1 g s rv = some v) : ∃ u, (resSem a.tmps rv).run g.P w = .ok u w ∧ VR w G Z v u := by
  cases rv with
  | tmp t =>
    simp only [res1] at h
    cases h
    exact ⟨_, rfl, hs.tr.at_ t⟩
  | cell b t =>
    simp only [res1] at h
    split at h
    · rename_i cs hu hl
      have hp := hs.tr.at_ b
      obtain ⟨u, h1, h2⟩ := load_ok hu hl h hp hs.hr
      obtain ⟨x, y, z, hx, -⟩ := loadCs_ok hl hp hs.hr
      refine ⟨u, ?_, h2⟩
      rw [hx] at h1
      simp only [resSem, hx]
      simpa [Instr.loadAt, Instr.sureAddr, asAddr] using h1
    · cases h

theorem resL_ok {dd : List Deferred} {g : Cfg} {s : St} {a : Act} (hs : SRel dd s a w G Z) : ∀ {rs : List ResultVar} {vs : List AV}, resL g s rs = some vs →
    ∃ us : List Value, (rs.mapM (resSem a.tmps)).run g.P w = .ok us w ∧ us.length = vs.length ∧ ∀ j, j < vs.length → VR w G Z (getT vs j) (us.getD j undef)
  | [], vs, h => by
    simp only [resL] at h
    cases h
    exact ⟨[], by simp, rfl, fun j hj => by simp at hj⟩
  | r :: rs, vs, h => by
    simp only [resL] at h
    split at h
    · rename_i v hv
      split at h
      · rename_i vs' hvs
        cases h
        obtain ⟨u, h1, h2⟩ := res1_ok hs hv
        obtain ⟨us, h3, h4, h5⟩ := resL_ok hs hvs
        refine ⟨u :: us, by simp [List.mapM_cons, h1, h3], by simp [h4], fun j hj => ?_⟩
        cases j with
        | zero => exact h2
        | succ j => exact h5 j (by simpa using hj)
      · cases h
    · cases h

theorem run_results {P : Program} {fn : Func} {tmps : Array Value} {us : List Value} (h : (fn.results.toList.mapM (resSem tmps)).run P w = .ok us w) :
    (results fn tmps).run P w = .ok (if h : us.length = 1 then us[0] else .tuple us.toArray) w := by
  unfold results
  rw [Array.mapM_eq_mapM_toList]
  refine Eq.trans (congrArg (fun f => Sem.run P (do
    let vs ← List.toArray <$> List.mapM f fn.results.toList
    pure (if h : vs.size = 1 then vs[0] else Value.tuple vs)) w) (?_ : _ = resSem tmps)) ?_
  · funext r
    cases r <;> rfl
  · simp [h]

theorem resV_ok {dd : List Deferred} {g : Cfg} {s : St} {a : Act} (hs : SRel dd s a w G Z) {fn : Func} {v : AV} (h : resV g s fn.results.toList = some v) : ∃ u, (results fn a.tmps).run g.P w = .ok u w ∧ VR w G Z v u := by
  unfold resV at h
  split at h
  · rename_i v' hl
    cases h
    obtain ⟨us, h1, h2, h3⟩ := resL_ok hs hl
    refine ⟨_, run_results h1, ?_⟩
    rw [dif_pos (by simpa using h2)]
    have := h3 0 (by simp)
    rw [List.getD_eq_getElem?_getD, List.getElem?_eq_getElem (by rw [h2]; simp)] at this
    exact this
  · rename_i vs hne hl
    cases h
    obtain ⟨us, h1, h2, h3⟩ := resL_ok hs hl
    refine ⟨_, run_results h1, ?_⟩
    rw [dif_neg (by
      rw [h2]
      intro h4
      obtain ⟨x, rfl⟩ := List.length_eq_one_iff.1 h4
      exact hne x rfl)]
    refine .tup _ _ (by simp [h2]) fun j hj => ?_
    have := h3 j hj
    simpa using this
  · cases h

theorem LpAll.none {g : Cfg} (h : ∀ f b, g.lspec f b = none) : LpAll g := fun f fn c _ _ p _ ls hls => by rw [h] at hls; cases hls

theorem callIn_ok {R : Type} {g : Cfg} (hg : CfgOK g) (hL : LpAll g) : ∀ n : Nat, CinOK (R := R) g.P (callIn g n)
  | 0 => fun f args h ctr k r hh => by simp [callIn] at hh
  | n + 1 => fun f args h ctr k r hh => by
    simp only [callIn] at hh
    split at hh
    · rename_i fn hfn
      split at hh
      · rename_i c hb
        obtain ⟨e, s', hk, hle, hw⟩ := ev_ok hg (callIn_ok hg hL n) _ _ _ _ _ (hL f fn c hfn hb) hh (Nat.le_refl _)
        have hfin : ∃ v, resV g s' fn.results.toList = some v ∧ k v s'.heap s'.ctr = some r ∧ (e = .norm ∨ e = .ret) := by
          cases e with
          | exit i => simp at hk
          | norm =>
            simp only at hk
            split at hk
            · rename_i v hv; exact ⟨v, hv, hk, .inl rfl⟩
            · cases hk
          | ret =>
            simp only at hk
            split at hk
            · rename_i v hv; exact ⟨v, hv, hk, .inr rfl⟩
            · cases hk
        obtain ⟨v, hv, hk, he⟩ := hfin
        refine ⟨v, s'.heap, s'.ctr, hk, enters_of hfn (hg.names f fn hfn) (by rw [hb]; rfl), hle, fun us w G Z ha hr hG => ?_⟩
        refine calls_of_wp hfn hb ?_
        refine wp_mono (wpIn_wide.1 (hw _ w G Z ⟨⟨?_, ?_⟩, hr, hG, rfl⟩ w G Z h hG (.refl hr) none 0)) ?_
        · simp [tops, ha.1]
        · intro t
          rw [getT_append, Array.getD_eq_getD_getElem?, Array.getElem?_append, ← ha.1]
          split
          · rename_i hlt
            have := ha.2 t hlt
            rwa [Array.getD_eq_getD_getElem?] at this
          · rw [tops_at]; exact .top _
        · rintro x a' w' ⟨rfl, G', Z', hs', hsr⟩
          obtain ⟨u, hu, hvr⟩ := resV_ok hs' hv
          have hres : ∃ u G' Z', Ending.returned u = Ending.returned u ∧ True := ⟨u, G', Z', rfl, trivial⟩
          rcases he with rfl | rfl
          · exact ⟨hs'.df, u, hu, u, G', Z', rfl, hsr.bound hs'.fr, hvr⟩
          · exact ⟨hs'.df, u, hu, u, G', Z', rfl, hsr.bound hs'.fr, hvr⟩
      · cases hh
    · cases hh
end
end Go.Eng

set_option linter.unusedVariables false
set_option linter.unusedSimpArgs false
namespace Go.Eng
open Go.RowKit

/-! ### Code by pieces -/

theorem evt_seq {P : Program} {base : Nat} {x y : Code} {s s1 s' : St} {e : Ex} (h1 : EvT P base x s .norm s1) (h2 : EvT P base y s1 e s') : EvT P base (.seq x y) s e s' := by
  refine ⟨h2.1, fun a w G Z hs w0 G0 Z0 h0 hG0 hsr ro m => wpIn_seq ?_⟩
  refine wpIn_mono (h1.2 a w G Z hs w0 G0 Z0 h0 hG0 hsr ro m) ?_
  rintro q a' w' ⟨rfl, G1, Z1, hs1, hsr1⟩
  exact h2.2 a' w' G1 Z1 hs1 w0 G0 Z0 h0 hG0 hsr1 ro m
theorem evt_skip {P : Program} {base : Nat} {s : St} (hle : base ≤ s.ctr) : EvT P base .skip s .norm s :=
  ⟨hle, fun a w G Z hs w0 G0 Z0 h0 hG0 hsr ro m => wpIn_skip ⟨rfl, G, Z, hs, hsr⟩⟩
theorem evt_ret {P : Program} {base : Nat} {s : St} (hle : base ≤ s.ctr) : EvT P base .ret s .ret s :=
  ⟨hle, fun a w G Z hs w0 G0 Z0 h0 hG0 hsr ro m => wpIn_ret ⟨rfl, G, Z, hs, hsr⟩⟩
theorem evt_reg {g : Cfg} (hg : CfgOK g) {cin : CallIn St} (hc : CinOK g.P cin) {n id base : Nat} {ops : Array Oper} {dr : Bool} {s s' : St} (h : evReg g cin n ops.toList dr s some = some s') (hle : base ≤ s.ctr) : EvT g.P base (.region id ops dr) s .norm s' := by
  obtain ⟨s1, hk, hle2, hw⟩ := evReg_ok hg hc h
  cases hk
  refine ⟨Nat.le_trans hle hle2, fun a w G Z hs w0 G0 Z0 h0 hG0 hsr ro m => hw a w G Z hs ro m id _ ?_⟩
  intro a' w' G' Z' hs' hsr'
  exact ⟨rfl, G', Z', hs', (hsr.trans hsr').weak fun n hn => hn.elim (fun h => h) fun hn => Nat.le_trans hle hn⟩
theorem evt_cond {P : Program} {base : Nat} {c : Operand} {x y : Code} {s s' : St} {e : Ex} {t : Bool} (hv : ev1 s.tmps c = .bool t) (h : EvT P base (match t with | true => x | false => y) s e s') : EvT P base (.cond c x y) s e s' := by
  refine ⟨h.1, fun a w G Z hs w0 G0 Z0 h0 hG0 hsr ro m => ?_⟩
  have hcv : a.eval c = .bool t := by
    have := ev1_ok hs.tr c
    rw [hv] at this
    obtain ⟨u, hu⟩ : ∃ u, u = a.eval c := ⟨_, rfl⟩
    rw [← hu] at this ⊢
    cases this
    rfl
  cases t with
  | true => exact wpIn_cond_true hcv (h.2 a w G Z hs w0 G0 Z0 h0 hG0 hsr ro m)
  | false => exact wpIn_cond_false hcv (h.2 a w G Z hs w0 G0 Z0 h0 hG0 hsr ro m)

/-- The end of a function. -/
theorem calls_of_evt {g : Cfg} {f : FuncId} {fn : Func} {c : Code} (hfn : g.P.funcs[f]? = some fn) (hb : fn.body = some c) {args : List AV} {h : AH} {ctr : Nat} {e : Ex} {s' : St} {v : AV}
    (hw : EvT g.P ctr c { tmps := args ++ tops (fn.ntmps - args.length), heap := h, ctr := ctr } e s') (he : e = .norm ∨ e = .ret) (hv : resV g s' fn.results.toList = some v)
    {us : Array Value} {w : World} {G : Gh} {Z : Nat → Prop} (ha : AR w G Z args us) (hr : HR w G Z h) (hG : ∀ n, ctr ≤ n → G n = none) :
    Calls g.P f us w fun e w' => ∃ u G' Z', e = .returned u ∧ SR (fun n => ctr ≤ n ∧ n < s'.ctr) w G Z h w' G' Z' s'.heap ∧ VR w' G' Z' v u := by
  refine calls_of_wp hfn hb ?_
  refine wp_mono (wpIn_wide.1 (hw.2 _ w G Z ⟨⟨?_, ?_⟩, hr, hG, rfl⟩ w G Z h hG (.refl hr) none 0)) ?_
  · simp [tops, ha.1]
  · intro t
    rw [getT_append, Array.getD_eq_getD_getElem?, Array.getElem?_append, ← ha.1]
    split
    · rename_i hlt
      have := ha.2 t hlt
      rwa [Array.getD_eq_getD_getElem?] at this
    · rw [tops_at]; exact .top _
  · rintro x a' w' ⟨rfl, G', Z', hs', hsr⟩
    obtain ⟨u, hu, hvr⟩ := resV_ok hs' hv
    rcases he with rfl | rfl
    · exact ⟨hs'.df, u, hu, u, G', Z', rfl, hsr.bound hs'.fr, hvr⟩
    · exact ⟨hs'.df, u, hu, u, G', Z', rfl, hsr.bound hs'.fr, hvr⟩
theorem funOK_of_evt {g : Cfg} (hg : CfgOK g) {f : FuncId} {fn : Func} {c : Code} (hfn : g.P.funcs[f]? = some fn) (hb : fn.body = some c) {args : List AV} {h : AH} {ctr : Nat} {e : Ex} {s' : St} {v : AV}
    (hw : EvT g.P ctr c { tmps := args ++ tops (fn.ntmps - args.length), heap := h, ctr := ctr } e s') (he : e = .norm ∨ e = .ret) (hv : resV g s' fn.results.toList = some v) :
    FunOK g.P f args h ctr v s'.heap s'.ctr :=
  ⟨enters_of hfn (hg.names f fn hfn) (by rw [hb]; rfl), hw.1, fun us w G Z ha hr hG => calls_of_evt hfn hb hw he hv ha hr hG⟩

/-! ### Rows whose elements hold no slices -/

def flatL : Cd → Bool
  | .sl _ => false
  | .st _ => false
  | _ => true
def flatC : Cd → Bool
  | .st s => (lvs s).all flatL
  | c => flatL c
section
variable {w : World} {G G' : Gh} {Z Z' : Nat → Prop}
theorem flat_leaf {c : Cd} (hc : flatL c = true) {x : c.T} {v : Value} (h : VR w G Z (encLeaf c x) v) : VR w G' Z' (encLeaf c x) v := by
  cases c with
  | sl c => cases hc
  | st s => cases hc
  | u8 => simp only [encLeaf] at h ⊢; cases h with | int _ _ hh => exact .int _ _ hh
  | u16 => simp only [encLeaf] at h ⊢; cases h with | int _ _ hh => exact .int _ _ hh
  | u32 => simp only [encLeaf] at h ⊢; cases h with | int _ _ hh => exact .int _ _ hh
  | u64 => simp only [encLeaf] at h ⊢; cases h with | int _ _ hh => exact .int _ _ hh
  | i64 => simp only [encLeaf] at h ⊢; cases h with | int _ _ hh => exact .int _ _ hh
  | i32 => simp only [encLeaf] at h ⊢; cases h with | int _ _ hh => exact .int _ _ hh
  | bool => simp only [encLeaf] at h ⊢; cases h; exact .bool _
  | str => simp only [encLeaf] at h ⊢; cases h; exact .str _
theorem flat_H : ∀ (cs : List Cd) (r : HL cs) (j : Nat) (v : Value), cs.all flatL = true → VR w G Z (getT (encH cs r) j) v → VR w G' Z' (getT (encH cs r) j) v
  | [], _, j, v, _, h => by simp only [encH, getT]; exact .top _
  | c :: cs, (x, r), j, v, hc, h => by
    simp only [List.all_cons, Bool.and_eq_true] at hc
    simp only [encH] at h ⊢
    cases j with
    | zero => exact flat_leaf hc.1 h
    | succ j => exact flat_H cs r j v hc.2 h
theorem flat_enc {c : Cd} (hc : flatC c = true) {x : c.T} {j : Nat} {v : Value} (h : VR w G Z (getT (enc c x) j) v) : VR w G' Z' (getT (enc c x) j) v := by
  have leaf : ∀ {c : Cd} (hc : flatL c = true) {x : c.T}, VR w G Z (getT [encLeaf c x] j) v → VR w G' Z' (getT [encLeaf c x] j) v := by
    intro c hc x h
    cases j with
    | zero => exact flat_leaf hc h
    | succ j => exact .top _
  cases c with
  | st s => exact flat_H _ _ j v hc h
  | sl c => cases hc
  | u8 => exact leaf (c := .u8) hc h
  | u16 => exact leaf (c := .u16) hc h
  | u32 => exact leaf (c := .u32) hc h
  | u64 => exact leaf (c := .u64) hc h
  | i64 => exact leaf (c := .i64) hc h
  | i32 => exact leaf (c := .i32) hc h
  | bool => exact leaf (c := .bool) hc h
  | str => exact leaf (c := .str) hc h
end
end Go.Eng

set_option linter.unusedVariables false
set_option linter.unusedSimpArgs false
namespace Go.Eng
open Go.RowKit

/-! ### slices.Clone -/

def cloneSpec (c : Cd) : Spec where
  X := List c.T
  dec _ h args := match args with
    | [v] => decSl h true c v
    | _ => none
  out l := .br (decide (0 + l.length ≤ capOf c)) (.ok (.own 0 c 0 l.length true, [(0, .row c l)])) .bad

def cS (c : Cd) (l : List c.T) (x y z : AV) (n : Nat) : St := ⟨[.imm c l, .top, x, y, z, .top, .top, .top], [], n⟩

section
variable {w : World} {G : Gh} {Z : Nat → Prop}

theorem eqNil_reg {dd : List Deferred} {P : Program} {s : St} {a : Act} (hs : SRel dd s a w G Z) {c : Cd} {l : List c.T} (h0 : getT s.tmps 0 = .imm c l) {i1 : Nat} {t e t1 t2 t3 : TypeId} {ps1 ps2 : String} {af1 af2 : Array Edge} (hu : P.underlying t = some (.slice e)) (h3 : 3 < s.tmps.length) :
    ∃ b, (b = true → l = []) ∧ ∀ (ro : Option Nat) (m : Nat) (Q : Exit → Act → World → Prop), (∀ a', SRel dd { s with tmps := setT (setT s.tmps 3 (.imm c l)) 4 (.bool b) } a' w G Z → Q .normal a' w) →
      (Code.region i1 #[{ dst := some 3, op := .move (.tmp 0), type := t1, pos := ps1, after := af1, guard := none }, { dst := some 4, op := .binOp .eql t (.tmp 3) (.const (.slice none 0 0)) t2, type := t3, pos := ps2, after := af2, guard := none }] false).wpIn (FW ro) m P Q a w := by
  have hv := hs.tr.at_ 0
  rw [h0] at hv
  obtain ⟨A, n, cap, hA, hAl⟩ : ∃ A n cap, a.tmps.getD 0 undef = .slice A n cap ∧ (A = none → l = []) := by
    obtain ⟨u, hu⟩ : ∃ u, u = a.tmps.getD 0 undef := ⟨_, rfl⟩
    rw [← hu] at hv ⊢
    cases hv with
    | imm _ _ b o cap vs h1 h2 h3 h4 => exact ⟨_, _, _, rfl, fun h => by cases h⟩
    | imm0 _ a cap => exact ⟨_, _, _, rfl, fun _ => rfl⟩
  have hlen := hs.tr.len
  refine ⟨A.isNone, fun hb => hAl (Option.isNone_iff_eq_none.1 hb), fun ro m Q hQ => wpIn_region_list ?_⟩
  have e0 : a.eval (.tmp 0) = .slice A n cap := by
    rw [← hA]
    simp [Act.eval, Array.getD_eq_getD_getElem?]
  simp only [wpListIn, Region.wanted, if_true]
  refine Does.of_value (T := fun u w' => u = .slice A n cap ∧ w' = w) (fun c e => by cases e) (w' := w) (u := .slice A n cap) (by simp [execOp, e0]) ⟨rfl, rfl⟩ ro m _ Q ?_
  rintro u w' ⟨rfl, rfl⟩
  have e3 : (a.put (some 3) (.slice A n cap)).eval (.tmp 3) = .slice A n cap := by
    simp [Act.eval, Act.put, ← hlen, h3]
  have hrun : ∀ w, (Op.equal t (.slice A n cap) (.slice none 0 0)).run P w = .ok A.isNone w := fun w => run_equal_of fun d => by
    cases A <;> simp only [Op.equalIn, Sem.run_bind, run_und hu, Result.andThen_ok, Sem.run_pure] <;> rfl
  refine Does.of_value (T := fun u w'' => u = .bool A.isNone ∧ w'' = w') (fun c e => by cases e) (w' := w') (u := .bool A.isNone) ?_ ⟨rfl, rfl⟩ ro m _ Q ?_
  · have ec : (a.put (some 3) (.slice A n cap)).eval (.const (.slice none 0 0)) = .slice none 0 0 := rfl
    simp only [execOp, e3, ec]
    simp [eqGuard, binOp, hrun]
  · rintro u w' ⟨rfl, rfl⟩
    refine hQ _ ⟨?_, hs.hr, hs.fr, by simp only [put_defers]; exact hs.df⟩
    refine (hs.tr.set ?_ 3).set (.bool _) 4
    rw [← hA]; exact hv
end

theorem hget1 {b bl : Blk} {nm : Nat} (h : hget [(0, b)] nm = some bl) : nm = 0 ∧ bl = b := by
  simp only [hget] at h
  by_cases e : 0 = nm
  · subst e
    simp only [beq_self, Option.some.injEq] at h
    exact ⟨rfl, h.symm⟩
  · simp only [beq_ne e] at h
    cases h

theorem clone_ok {g : Cfg} (hg : CfgOK g) {f : FuncId} {c : Cd} (hfl : flatC c = true) {fn : Func} (hf : g.P.funcs[f]? = some fn) (hn : fn.ntmps = 8) (hres : fn.results.toList = [.tmp 2])
    {i0 i1 i2 i3 : Nat} {p0 p2 p3 : Array Oper} {t e t1 t2 t3 : TypeId} {ps1 ps2 : String} {af1 af2 : Array Edge} (hu : g.P.underlying t = some (.slice e))
    (hb : fn.body = some (.seq (.region i0 p0 false) (.seq (.seq (.region i1 #[{ dst := some 3, op := .move (.tmp 0), type := t1, pos := ps1, after := af1, guard := none }, { dst := some 4, op := .binOp .eql t (.tmp 3) (.const (.slice none 0 0)) t2, type := t3, pos := ps2, after := af2, guard := none }] false) (.cond (.tmp 4) (.seq (.region i2 p2 false) .ret) .skip)) (.seq (.region i3 p3 false) .ret))))
    (h0 : ∀ l, evReg (R := St) g (fun _ _ _ _ _ => none) 1 p0.toList false (cS c l .top .top .top 0) some = some (cS c l .nils .top .top 64))
    (h2 : ∀ l, evReg (R := St) g (fun _ _ _ _ _ => none) 1 p2.toList false (cS c l .nils (.imm c l) (.bool true) 64) some = some (cS c l .nils (.imm c l) (.bool true) 128))
    (h3 : ∀ l, evReg (R := St) g (fun _ _ _ _ _ => none) 1 p3.toList false (cS c l .nils (.imm c l) (.bool false) 64) some = ifb (decide (0 + l.length ≤ capOf c))
      (some ⟨[.imm c l, .top, .own 192 c 0 (0 + l.length) true, .imm c l, .bool false, .own 64 c 0 0 true, .imm c l, .own 192 c 0 (0 + l.length) true], [(192, .row c l)], 320⟩) none) :
    SpecOK g.P f (cloneSpec c) := by
  have hen := enters_of hf (hg.names f fn hf) (by rw [hb]; rfl)
  refine ⟨hen, ?_⟩
  intro _ args h l p hd hF us w G Z hnw hr ha _
  simp only [cloneSpec] at hd hF
  rcases hF with ⟨hlen, hF⟩ | ⟨_, hF⟩
  case inr => exact hF.elim
  obtain rfl : _ = p := hF
  split at hd
  case h_2 => cases hd
  case h_1 v =>
  have hlen' : 0 + l.length ≤ capOf c := by simpa using hlen
  have hc : CinOK (R := St) g.P (fun _ _ _ _ _ => none) := fun f args h ctr k r hh => by cases hh
  obtain ⟨u, rfl⟩ : ∃ u, us = #[u] := by
    have := ha.1
    simp only [List.length_cons, List.length_nil] at this
    exact Array.size_eq_one_iff.1 this.symm
  have hv : VR w G Z v u := ha.2 0 (by simp)
  obtain ⟨A, cap, hA, hcap, hcell⟩ := decSl_ok hd hv hr
  -- what is lent is not written while the call lasts
  let Zp : Nat → Prop := fun b => Z b ∨ (l ≠ [] ∧ ∃ o, A = some (ad b o))
  have hr0 : HR w (fun _ => none) Zp [] := by
    refine ⟨fun nm bl hh => (by cases hh), fun n m bn bm ni mi b o o' hh => (by cases hh), fun n bn ni b o hh => (by cases hh), ?_⟩
    rintro b (hz | ⟨hl, o, ho⟩)
    · exact hr.zlt b hz
    · rcases hcell with hcell | ⟨b', o', vs, e1, e2, _⟩
      · exact absurd hcell hl
      · rw [ho] at e1
        cases e1
        exact lt_of_cell (e2.cell 0 (List.length_pos_iff.2 hl) 0 (Nat.pos_of_ne_zero (csz_pos c)))
  have hv0 : VR w (fun _ => none) Zp (.imm c l) u := by
    rw [hA]
    rcases hcell with hcell | ⟨b', o', vs, e1, e2, _⟩
    · subst hcell; exact .imm0 c A cap
    · by_cases hl : l = []
      · subst hl; exact .imm0 c A cap
      · rw [e1]
        exact .imm c l b' o' cap vs (.inr ⟨hl, o', e1⟩) hcap e2.cell fun i hi j hj => flat_enc hfl (e2.vr i hi j hj)
  have ext0 : ∀ {w' G' Z' h'}, SR (fun m => 0 ≤ m) w (fun _ => none) Zp [] w' G' Z' h' → Ext (fun _ _ => False) w w' := fun s => s.ext.mono fun b j _ hw => by
    obtain ⟨nm, bl, ni, o, h1, _⟩ := hw
    cases h1
  refine calls_of_wp hf hb ?_
  have s0 : SRel [] (cS c l .top .top .top 0) { tmps := #[u] ++ Array.replicate (fn.ntmps - (#[u] : Array Value).size) undef, defers := [] } w (fun _ => none) Zp := by
    refine ⟨⟨?_, ?_⟩, hr0, fun _ _ => rfl, rfl⟩
    · simp [cS, hn]
    · intro t
      cases t with
      | zero =>
        have : (#[u] ++ Array.replicate (fn.ntmps - (#[u] : Array Value).size) undef).getD 0 undef = u := by
          rw [Array.getD_eq_getD_getElem?, Array.getElem?_append_left (Nat.zero_lt_one)]; rfl
        rw [this]
        exact hv0
      | succ t =>
        have : getT (cS c l .top .top .top 0).tmps (t + 1) = .top := by
          rcases t with _ | _ | _ | _ | _ | _ | _ | t <;> rfl
        rw [this]
        exact .top _
  refine (wpIn_wide (n := 0)).1 (wpIn_seq ?_)
  have r0 := (evt_reg (id := i0) (base := 0) hg hc (h0 l) (Nat.zero_le _)).2 _ w _ _ s0 w _ _ [] (fun _ _ => rfl) (.refl hr0) none 0
  refine wpIn_mono r0 ?_
  rintro x a1 w1 ⟨rfl, G1, Z1, s1, sr1⟩
  refine wpIn_seq (wpIn_seq ?_)
  obtain ⟨b, hbl, hreg⟩ := eqNil_reg (P := g.P) (i1 := i1) (t1 := t1) (t2 := t2) (t3 := t3) (ps1 := ps1) (ps2 := ps2) (af1 := af1) (af2 := af2) s1 (c := c) (l := l) rfl hu (by simp [cS])
  refine hreg none 0 _ ?_
  intro a2 s2
  have hget : ∀ {w' G' Z' h'}, SR (fun m => 0 ≤ m) w (fun _ => none) Zp [] w' G' Z' h' → ∀ b, Z b → b < w'.heap.size := fun s b hz => Nat.lt_of_lt_of_le (hr.zlt b hz) s.ext.size
  cases b with
  | true =>
    have hl := hbl rfl
    subst hl
    have s2' : SRel [] (cS c [] .nils (.imm c []) (.bool true) 64) a2 w1 G1 Z1 := s2
    refine wpIn_cond_true ?_ (wpIn_seq ?_)
    · have := ev1_ok s2'.tr (.tmp 4)
      obtain ⟨u', hu'⟩ : ∃ u', u' = a2.eval (.tmp 4) := ⟨_, rfl⟩
      rw [← hu'] at this ⊢
      have this : VR w1 G1 Z1 (.bool true) u' := this
      cases this
      rfl
    have r2 := (evt_reg (id := i2) (base := 0) hg hc (h2 []) (Nat.zero_le _)).2 _ w1 _ _ s2' w _ _ [] (fun _ _ => rfl) sr1 none 0
    refine wpIn_mono r2 ?_
    rintro x a3 w3 ⟨rfl, G3, Z3, s3, sr3⟩
    refine wpIn_ret ?_
    have hv3 := s3.tr.at_ 2
    refine ⟨s3.df, a3.tmps.getD 2 undef, ?_, ?_⟩
    · have e1 : fn.results = #[.tmp 2] := by rw [← hres]
      simp [results, e1]
    · have hnil : a3.tmps.getD 2 undef = .slice none 0 0 := by
        obtain ⟨u', hu'⟩ : ∃ u', u' = a3.tmps.getD 2 undef := ⟨_, rfl⟩
        rw [← hu'] at hv3 ⊢
        have hv3 : VR w3 G3 Z3 .nils u' := hv3
        cases hv3
        rfl
      rw [hnil]
      refine ⟨_, fun m => if m = 0 then some ⟨none, 0, c⟩ else none, Z, rfl, ext0 sr3, fun _ h => h, fun _ h => .inl h, ?_, ⟨?_, ?_, ?_, hget sr3⟩, ?_⟩
      · intro nm bl ni b o h1 h2 h3 h4
        obtain ⟨rfl, rfl⟩ := hget1 h1
        cases h3
        cases h4
      · intro nm bl h1
        obtain ⟨rfl, rfl⟩ := hget1 h1
        exact ⟨_, rfl, rfl, rfl, .inl ⟨rfl, rfl⟩⟩
      · intro n m bn bm ni mi b o o' h1 h2 h3 h4 h5 h6 h7
        split at h5
        · cases h5; cases h7
        · cases h5
      · intro n bn ni b o h1 h2 h3 h4
        split at h3
        · cases h3; cases h4
        · cases h3
      · exact .own0 0 c 0 true ⟨none, 0, c⟩ none rfl rfl (Nat.le_refl _) fun _ => rfl
  | false =>
    have s2' : SRel [] (cS c l .nils (.imm c l) (.bool false) 64) a2 w1 G1 Z1 := s2
    refine wpIn_cond_false ?_ (wpIn_skip ?_)
    · have := ev1_ok s2'.tr (.tmp 4)
      obtain ⟨u', hu'⟩ : ∃ u', u' = a2.eval (.tmp 4) := ⟨_, rfl⟩
      rw [← hu'] at this ⊢
      have this : VR w1 G1 Z1 (.bool false) u' := this
      cases this
      rfl
    refine wpIn_seq ?_
    have h3' := h3 l
    rw [hlen] at h3'
    have r3 := (evt_reg (id := i3) (base := 0) hg hc h3' (Nat.zero_le _)).2 _ w1 _ _ s2' w _ _ [] (fun _ _ => rfl) sr1 none 0
    refine wpIn_mono r3 ?_
    rintro x a3 w3 ⟨rfl, G3, Z3, s3, sr3⟩
    refine wpIn_ret ?_
    have hv3 := s3.tr.at_ 2
    refine ⟨s3.df, a3.tmps.getD 2 undef, ?_, ?_⟩
    · have e1 : fn.results = #[.tmp 2] := by rw [← hres]
      simp [results, e1]
    · have hrow : Go.Eng.hget [(192, Blk.row c l)] 192 = some (.row c l) := rfl
      obtain ⟨ni, q1, q2⟩ := s3.hr.blk 192 _ hrow
      have hown : ∀ b o, ni.blk = some (b, o) → w.heap.size ≤ b := by
        intro b o hbk
        rcases sr3.own 192 _ ni b o hrow q1 hbk with q | ⟨nm0, bl0, ni0, o0, q, _⟩
        · exact q
        · cases q
      refine ⟨_, fun m => if m = 0 then some ni else none, Z, rfl, ext0 sr3, fun _ h => h, fun _ h => .inl h, ?_, ⟨?_, ?_, ?_, hget sr3⟩, ?_⟩
      · intro nm bl ni' b o h1 h2 h3 h4
        split at h3
        · cases h3; exact hown b o h4
        · cases h3
      · intro nm bl h1
        obtain ⟨rfl, rfl⟩ := hget1 h1
        obtain ⟨q3, q4, q5⟩ := q2
        exact ⟨ni, rfl, q3, q4, q5.imp id fun ⟨b, o, vs, t1, t2, t3⟩ => ⟨b, o, vs, t1, ⟨t2.cell, fun i hi j hj => flat_enc hfl (t2.vr i hi j hj)⟩, t3⟩⟩
      · intro n m bn bm ni1 mi b o o' h1 h2 h3 h4 h5 h6 h7
        split at h5
        · split at h6
          · rename_i e1 e2; exact absurd (e1.trans e2.symm) h4
          · cases h6
        · cases h5
      · intro n bn ni' b o h1 h2 h3 h4 hz
        split at h3
        · cases h3
          have := hown b o h4
          have := hr.zlt b hz
          omega
        · cases h3
      · have hv3 : VR w3 G3 Z3 (.own 192 c 0 (0 + l.length) true) (a3.tmps.getD 2 undef) := hv3
        rw [Nat.zero_add] at hv3
        simp only [cloneSpec]
        obtain ⟨u', hu'⟩ : ∃ u', u' = a3.tmps.getD 2 undef := ⟨_, rfl⟩
        rw [← hu'] at hv3 ⊢
        generalize hll : l.length = k at hv3 ⊢
        cases hv3 with
        | own _ _ _ _ _ ni' b o cap e S h1 h2 h3 h4 h5 h6 h7 h8 => rw [q1] at h1; cases h1; exact .own 0 c 0 k true ni b o cap e S rfl h2 h3 h4 h5 h6 h7 h8
        | own0 _ _ _ _ ni' a h1 h2 h3 h4 => rw [q1] at h1; cases h1; exact .own0 0 c 0 true ni a rfl h2 h3 h4
end Go.Eng
