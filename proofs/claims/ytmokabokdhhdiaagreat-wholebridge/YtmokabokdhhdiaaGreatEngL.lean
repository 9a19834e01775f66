/- A part of the evaluator of the program and of its proof: texts E65, E66, E67, E68, E69, E70, E71, E72, E73, E74. -/
import Derived.Test.YtmokabokdhhdiaaGreatEngK
import Derived.Test.YtmokabokdhhdiaaGreatRows
import Derived.Deep.Slices
import Derived.Deep.Fields
import Derived.ChangeSame
import Derived.SizedLaws
import Derived.ProofKit
set_option linter.unusedVariables false
set_option linter.unusedSimpArgs false
namespace Go.Eng
open Go.RowKit

/-! ### The ports of bridge.Forward -/

noncomputable def loopB (b : Nat) (c : Code) : Code := match loopAt b (loopsOf 0 c) with | x :: _ => x | [] => .skip
abbrev LT14 := Int × Unit × Unit × Nat × Int × Int × (Int × Unit × Unit) × BrT × List Int × Unit
noncomputable def sp14 : SPtn LT14 := sSlot 1 (pInt .i64) (sSlot 6 (pPtr 0 0) (sSlot 9 (pPtr 1 0) (sSlot 14 (pOwn 2 .i64 0 true) (sSlot 71 (pInt .i64) (sSlot 72 (pInt .i64) (sBlk 0 (bExp lZ) (sBlk 1 (bExp lBr) (sBlk 2 (bRow .i64) (sNil 85 3)))))))))
noncomputable def l14 : Code := loopB 1 (bodyOf Proofs.Tryz.f14)
noncomputable def nrm14 := nrmL 0 (cfg8.keep 14 1) [(14, .i64)] []
noncomputable def exit14 (len : Nat) (z nn : Int) (l : List LearntS) (r : List Int) : Ex × St := (.exit 1, ⟨setT (setT (setT (tops 85) 6 (.ptr 0 0)) 9 (.ptr 1 0)) 14 (.own 2 .i64 0 len true), [(0, .exp [.int .i64 z, .nils]), (1, .exp [.int .i64 nn, .imm (.st .Learnt) l]), (2, .row .i64 r)], 3⟩)
theorem step14 (pt n i z nn : Int) (len : Nat) (l : List LearntS) (r : List Int) :
    stepL cfg8 40 14 0 1 nrm14 [] [6, 9, 14] sp14 l14 (pt, (), (), len, n, i, (z, (), ()), (nn, l, ()), r, ()) =
      ifb (decide (i < n)) (ifb (!(i == pt)) (ifb (decide (len + 1 ≤ 4294967296)) (some (.inl (pt, (), (), len + 1, n, IntKind.i64.wrap (i + 1), (z, (), ()), (nn, l, ()), r.drop 0 ++ [i], ()))) none)
        (some (.inl (pt, (), (), len, n, IntKind.i64.wrap (i + 1), (z, (), ()), (nn, l, ()), r, ())))) (some (.inr (exit14 len z nn l r))) := by kernel_rfl
/-- The ports from j on but one. -/
def prts (pt : Int) : Nat → Nat → List Int
  | 0, _ => []
  | k + 1, j => match (j : Int) == pt with
    | true => prts pt k (j + 1)
    | false => (j : Int) :: prts pt k (j + 1)
theorem prts_len (pt : Int) : ∀ k j, (prts pt k j).length ≤ k
  | 0, _ => Nat.le_refl _
  | k + 1, j => by
    simp only [prts]
    have := prts_len pt k (j + 1)
    split
    · omega
    · simp only [List.length_cons]; omega
theorem runs14 (pt z nn : Int) (l : List LearntS) : ∀ (k j : Nat) (r : List Int), j + k < 1000000 → r.length ≤ j →
    Runs (stepL cfg8 40 14 0 1 nrm14 [] [6, 9, 14] sp14 l14) (pt, (), (), r.length, ((j + k : Nat) : Int), (j : Int), (z, (), ()), (nn, l, ()), r, ())
      (exit14 (r ++ prts pt k j).length z nn l (r ++ prts pt k j))
  | 0, j, r, h, hr => by
    refine .out _ _ ?_
    rw [step14, dec_f (by omega : ¬ (j : Int) < ((j + 0 : Nat) : Int))]
    simp [prts, ifb]
  | k + 1, j, r, h, hr => by
    have hst := step14 pt ((j + (k + 1) : Nat) : Int) j z nn r.length l r
    rw [dec_t (by omega : (j : Int) < ((j + (k + 1) : Nat) : Int)), dec_t (by omega : r.length + 1 ≤ 4294967296), wrap_suc (by omega), List.drop_zero] at hst
    simp only [prts]
    have e : j + (k + 1) = (j + 1) + k := by omega
    cases hq : (j : Int) == pt with
    | true =>
      rw [hq] at hst
      rw [e] at hst ⊢
      exact .go _ _ _ hst (runs14 pt z nn l k (j + 1) r (by omega) (by omega))
    | false =>
      rw [hq] at hst
      rw [e] at hst ⊢
      have := runs14 pt z nn l k (j + 1) (r ++ [(j : Int)]) (by omega) (by simp; omega)
      have e2 : r ++ [(j : Int)] ++ prts pt k (j + 1) = r ++ (j : Int) :: prts pt k (j + 1) := by simp
      have e3 : (r ++ [(j : Int)]).length = r.length + 1 := by simp
      rw [e2, e3] at this
      exact .go _ _ _ hst this
noncomputable def out14 : LT14 → Out (Ex × St)
  | (pt, _, _, len, n, i, (z, _, _), (nn, l, _), r, _) => .br (decide (len = r.length) && (decide (r.length = 0) && (decide (i = 0) && (decide (0 ≤ n) && decide (n < 1000000)))))
    (.ok (exit14 (prts pt n.toNat 0).length z nn l (prts pt n.toNat 0))) .bad
noncomputable def ls14 : LSpec := lspecOf 0 nrm14 sp14 out14
theorem lpx {g : Cfg} {f b : Nat} {c : Code} (hc : loopsOf b c = []) : LpOK g f b c := fun p hp ls hls => by rw [hc] at hp; cases hp
theorem ls14_ok : LSpecOK cfg8.P l14 ls14 := by
  refine lspec_ok (fun s => nrmL_ok) ?_
  rintro ⟨pt, ⟨⟩, ⟨⟩, len, n, i, ⟨z, ⟨⟩, ⟨⟩⟩, ⟨nn, l, ⟨⟩⟩, r, ⟨⟩⟩ p hp
  rcases hp with ⟨hc, hp⟩ | ⟨_, hp⟩
  case inr => exact hp.elim
  simp only [Bool.and_eq_true, decide_eq_true_eq] at hc
  obtain ⟨rfl, hr, rfl, h0, h1⟩ := hc
  obtain rfl := List.eq_nil_of_length_eq_zero hr
  obtain ⟨n, rfl⟩ := Int.eq_ofNat_of_zero_le h0
  obtain rfl : _ = p := hp
  have hr := runs_ok cfg8_ok cfg8_lp (fun s => nrmL_ok) (lpx (f := 14) (by kernel_rfl)) (fun x => Nat.zero_le _) (runs14 pt z nn l n 0 [] (by omega) (Nat.le_refl _))
  rw [Nat.zero_add, List.nil_append] at hr
  exact hr
theorem f14_at : cfg0.P.funcs[14]? = some Proofs.Tryz.f14 := by kernel_rfl
noncomputable def cfg9 : Cfg := addL cfg8 14 1 ls14
theorem cfg9_ok : CfgOK cfg9 := addL_ok cfg8_ok
theorem cfg9_lp : LpAll cfg9 := addL_lp cfg8_lp f14_at (by kernel_rfl) ls14_ok

/-- A frame: two cards, and what follows. -/
abbrev FrT := (UInt8 × UInt8 × UInt8 × UInt8 × UInt8 × UInt8) × (UInt8 × UInt8 × UInt8 × UInt8 × UInt8 × UInt8) × List UInt8
def pFr : Ptn FrT where
  dec v := match v with
    | .imm c l => match castL c .u8 l with
      | some (d0 :: d1 :: d2 :: d3 :: d4 :: d5 :: s0 :: s1 :: s2 :: s3 :: s4 :: s5 :: r) => some ((d0, d1, d2, d3, d4, d5), (s0, s1, s2, s3, s4, s5), r)
      | _ => none
    | _ => none
  bd x := match x with | ((d0, d1, d2, d3, d4, d5), (s0, s1, s2, s3, s4, s5), r) => .imm .u8 (d0 :: d1 :: d2 :: d3 :: d4 :: d5 :: s0 :: s1 :: s2 :: s3 :: s4 :: s5 :: r)
  ok v x h := by
    split at h
    · rename_i c l
      split at h
      · rename_i h1
        cases h
        obtain ⟨e, h2⟩ := castL_some h1
        subst e
        subst h2
        rfl
      · cases h
    · cases h
noncomputable def ap14 : APtn (BrT × Int × FrT × Unit) := aArgs (lCons (pAgg lBr) (lCons (pInt .i64) (lCons pFr lNil)))
end Go.Eng

set_option linter.unusedVariables false
set_option linter.unusedSimpArgs false
namespace Go.Eng
open Go.RowKit

/-! ### bridge.Forward -/

def gI (L : List UInt8) (j : Nat) : Int := ifb (decide (j < L.length)) ((L.getD j 0).toNat : Int) 0
def srcF (F : List UInt8) : List UInt8 := (F.drop 6).take ((F.length : Int) - 6).toNat
def is255 (m0 m1 m2 m3 m4 m5 : Int) : Bool := decide (m0 = 255) && (decide (m1 = 255) && (decide (m2 = 255) && (decide (m3 = 255) && (decide (m4 = 255) && decide (m5 = 255)))))
def fwR (nn : Int) (L : List LearntS) (ps : List Int) (e : Int) : Option (AV × AH) := some (.tup [.agg [.int .i64 nn, .imm (.st .Learnt) L], .imm .i64 ps, .int .i64 e], [])
def fwP (nn pt : Int) (L : List LearntS) : Option (AV × AH) :=
  ifb (decide (0 = ([] : List Int).length) && (decide (([] : List Int).length = 0) && (decide ((0 : Int) = 0) && (decide (0 ≤ nn) && decide (nn < 1000000)))))
    (fwR nn L (((prts pt nn.toNat 0).drop 0).take (prts pt nn.toNat 0).length) 0) none
def fwB (nn pt m0 m1 m2 m3 m4 m5 : Int) (L : List LearntS) : Option (AV × AH) :=
  ifb (decide (L.length < 4294967296)) (ifb (isSome (fnd16 m0 m1 m2 m3 m4 m5 L))
    (ifb (!is255 m0 m1 m2 m3 m4 m5) (ifb ((match fnd16 m0 m1 m2 m3 m4 m5 L with | some x => x.Port | none => 0) == pt) (fwR nn L [] 0) (fwR nn L [match fnd16 m0 m1 m2 m3 m4 m5 L with | some x => x.Port | none => 0] 0)) (fwP nn pt L)) (fwP nn pt L)) none
def fwA (nn pt : Int) (F : List UInt8) (l : List LearntS) : Option (AV × AH) :=
  ifb (decide (pt < 0)) (fwR nn l [] 1) (ifb (decide (pt ≥ nn)) (fwR nn l [] 1) (ifb (decide ((F.length : Int) < 14)) (fwR nn l [] 6) (ifb (okS 6 F.length F.length)
    (ifb (!(bitI .and .u8 (gI (srcF F) 0) 1 == 1)) (ifb (decide (l.length < 2147483648)) (fwB nn pt (gI F 0) (gI F 1) (gI F 2) (gI F 3) (gI F 4) (gI F 5) (learnF (gI (srcF F) 0) (gI (srcF F) 1) (gI (srcF F) 2) (gI (srcF F) 3) (gI (srcF F) 4) (gI (srcF F) 5) pt l)) none)
      (fwB nn pt (gI F 0) (gI F 1) (gI F 2) (gI F 3) (gI F 4) (gI F 5) l)) none)))
theorem call14 (nn pt : Int) (l : List LearntS) (d0 d1 d2 d3 d4 d5 s0 s1 s2 s3 s4 s5 : UInt8) (f : List UInt8) :
    callIn cfg9 40 14 (ap14.args ((nn, l, ()), pt, ((d0, d1, d2, d3, d4, d5), (s0, s1, s2, s3, s4, s5), f), ())) (ap14.heap ((nn, l, ()), pt, ((d0, d1, d2, d3, d4, d5), (s0, s1, s2, s3, s4, s5), f), ())) ap14.names (fun v h _ => some (finA [(1, .i64)] v h)) =
      ifb (decide (0 + l.length ≤ 4294967296)) (fwA nn pt (d0 :: d1 :: d2 :: d3 :: d4 :: d5 :: s0 :: s1 :: s2 :: s3 :: s4 :: s5 :: f) ((l.drop 0).take l.length)) none := by kernel_rfl
end Go.Eng

set_option linter.unusedVariables false
set_option linter.unusedSimpArgs false
namespace Go.Eng
open Go.RowKit

/-! ### bayPorts: its loops -/

noncomputable def c15 : Code := bodyOf Proofs.Tryz.f15
abbrev LT15a := Int × Int × Unit × Unit × Nat × List LearntS × Int × Int × A6T × A6T × List LearntS × Unit
noncomputable def sp15a : SPtn LT15a := sSlot 1 (pInt .i64) (sSlot 2 (pInt .i64) (sSlot 10 (pPtr 0 0) (sSlot 11 (pPtr 1 0) (sSlot 12 (pOwn 2 (.st .Learnt) 0 true) (sSlot 30 (pImm (.st .Learnt)) (sSlot 31 (pInt .i64) (sSlot 32 (pInt .i64) (sBlk 0 (bExp lA6) (sBlk 1 (bExp lA6) (sBlk 2 (bRow (.st .Learnt)) (sNil 95 3)))))))))))
noncomputable def l15a : Code := loopB 0 c15
noncomputable def nrm15a := nrmL 0 (cfg9.keep 15 0) [(12, .st .Learnt)] []
noncomputable def exit15a (nn pt : Int) (len : Nat) (m s : A6T) (r : List LearntS) : Ex × St := (.exit 0, ⟨setT (setT (setT (setT (setT (tops 95) 1 (.int .i64 nn)) 2 (.int .i64 pt)) 10 (.ptr 0 0)) 11 (.ptr 1 0)) 12 (.own 2 (.st .Learnt) 0 len true), [(0, .exp (lA6.bd m)), (1, .exp (lA6.bd s)), (2, .row (.st .Learnt) r)], 3⟩)
theorem step15a (nn pt n i : Int) (len : Nat) (l r : List LearntS) (m0 m1 m2 m3 m4 m5 s0 s1 s2 s3 s4 s5 : Int) :
    stepL cfg9 40 15 0 0 nrm15a [] [1, 2, 10, 11, 12] sp15a l15a (nn, pt, (), (), len, l, n, i, (m0, m1, m2, m3, m4, m5, ()), (s0, s1, s2, s3, s4, s5, ()), r, ()) =
      ifb (decide (i < n)) (ifb (decide (0 ≤ i) && decide (i < (l.length : Nat))) (ifb (!eqA6 (l.getD i.toNat (dflt (.st .Learnt))).MAC s0 s1 s2 s3 s4 s5)
        (ifb (decide (len + 1 ≤ 4294967296)) (some (.inl (nn, pt, (), (), len + 1, l, n, IntKind.i64.wrap (i + 1), (m0, m1, m2, m3, m4, m5, ()), (s0, s1, s2, s3, s4, s5, ()), r.drop 0 ++ [reL (l.getD i.toNat (dflt (.st .Learnt)))], ()))) none)
        (some (.inl (nn, pt, (), (), len, l, n, IntKind.i64.wrap (i + 1), (m0, m1, m2, m3, m4, m5, ()), (s0, s1, s2, s3, s4, s5, ()), r, ())))) none)
        (some (.inr (exit15a nn pt len (m0, m1, m2, m3, m4, m5, ()) (s0, s1, s2, s3, s4, s5, ()) r))) := by kernel_rfl

abbrev LT15b := List LearntS × Int × Int × Unit × List LearntS × Int × Int × A6T × Unit
noncomputable def sp15b : SPtn LT15b := sSlot 0 (pImm (.st .Learnt)) (sSlot 1 (pInt .i64) (sSlot 2 (pInt .i64) (sSlot 10 (pPtr 0 0) (sSlot 56 (pImm (.st .Learnt)) (sSlot 57 (pInt .i64) (sSlot 58 (pInt .i64) (sBlk 0 (bExp lA6) (sNil 95 1))))))))
noncomputable def l15b : Code := loopB 2 c15
noncomputable def nrm15b := nrmL 0 (cfg9.keep 15 2) [] []
noncomputable def exit15b (k : List LearntS) (nn pt : Int) : Ex × St := (.exit 2, ⟨setT (setT (setT (tops 95) 0 (.imm (.st .Learnt) k)) 1 (.int .i64 nn)) 2 (.int .i64 pt), [], 0⟩)
noncomputable def retN15 (k : List LearntS) : Ex × St := (.ret, ⟨setT (setT (tops 95) 8 (.imm (.st .Learnt) k)) 9 .nils, [], 0⟩)
noncomputable def retP15 (k : List LearntS) (p : Int) : Ex × St := (.ret, ⟨setT (setT (tops 95) 8 (.imm (.st .Learnt) k)) 9 (.own 0 .i64 0 1 true), [(0, .row .i64 [p])], 1⟩)
theorem step15b (nn pt n i : Int) (k l : List LearntS) (m0 m1 m2 m3 m4 m5 : Int) :
    stepL cfg9 40 15 0 2 nrm15b [8, 9] [0, 1, 2] sp15b l15b (k, nn, pt, (), l, n, i, (m0, m1, m2, m3, m4, m5, ()), ()) =
      ifb (decide (i < n)) (ifb (decide (0 ≤ i) && decide (i < (l.length : Nat))) (ifb (eqA6 (l.getD i.toNat (dflt (.st .Learnt))).MAC m0 m1 m2 m3 m4 m5)
        (ifb (!is255 m0 m1 m2 m3 m4 m5) (ifb ((l.getD i.toNat (dflt (.st .Learnt))).Port == pt) (some (.inr (retN15 k))) (some (.inr (retP15 k (l.getD i.toNat (dflt (.st .Learnt))).Port))))
          (some (.inl (k, nn, pt, (), l, n, IntKind.i64.wrap (i + 1), (m0, m1, m2, m3, m4, m5, ()), ()))))
        (some (.inl (k, nn, pt, (), l, n, IntKind.i64.wrap (i + 1), (m0, m1, m2, m3, m4, m5, ()), ())))) none)
        (some (.inr (exit15b k nn pt))) := by kernel_rfl

abbrev LT15c := List LearntS × Int × Int × Nat × Int × List Int × Unit
noncomputable def sp15c : SPtn LT15c := sSlot 0 (pImm (.st .Learnt)) (sSlot 1 (pInt .i64) (sSlot 2 (pInt .i64) (sSlot 17 (pOwn 0 .i64 0 true) (sSlot 18 (pInt .i64) (sBlk 0 (bRow .i64) (sNil 95 1))))))
noncomputable def l15c : Code := loopB 4 c15
noncomputable def nrm15c := nrmL 0 (cfg9.keep 15 4) [(17, .i64)] []
noncomputable def exit15c (k : List LearntS) (len : Nat) (r : List Int) : Ex × St := (.exit 4, ⟨setT (setT (tops 95) 0 (.imm (.st .Learnt) k)) 17 (.own 0 .i64 0 len true), [(0, .row .i64 r)], 1⟩)
theorem step15c (nn pt i : Int) (k : List LearntS) (len : Nat) (r : List Int) :
    stepL cfg9 40 15 0 4 nrm15c [] [0, 17] sp15c l15c (k, nn, pt, len, i, r, ()) =
      ifb (decide (i < nn)) (ifb (!(i == pt)) (ifb (decide (len + 1 ≤ 4294967296)) (some (.inl (k, nn, pt, len + 1, IntKind.i64.wrap (i + 1), r.drop 0 ++ [i], ()))) none)
        (some (.inl (k, nn, pt, len, IntKind.i64.wrap (i + 1), r, ())))) (some (.inr (exit15c k len r))) := by kernel_rfl
end Go.Eng

set_option linter.unusedVariables false
set_option linter.unusedSimpArgs false
namespace Go.Eng
open Go.RowKit

/-! ### bayPorts -/

theorem runs15a (nn pt : Int) (l : List LearntS) (m0 m1 m2 m3 m4 m5 s0 s1 s2 s3 s4 s5 : Int) (hl : l.length < 2147483648) : ∀ (k j : Nat) (r : List LearntS), j + k = l.length → r.length ≤ j →
    Runs (stepL cfg9 40 15 0 0 nrm15a [] [1, 2, 10, 11, 12] sp15a l15a) (nn, pt, (), (), r.length, l, (l.length : Int), (j : Int), (m0, m1, m2, m3, m4, m5, ()), (s0, s1, s2, s3, s4, s5, ()), r, ())
      (exit15a nn pt (r ++ (l.drop j).filter fun x => !q6 s0 s1 s2 s3 s4 s5 x).length (m0, m1, m2, m3, m4, m5, ()) (s0, s1, s2, s3, s4, s5, ()) (r ++ (l.drop j).filter fun x => !q6 s0 s1 s2 s3 s4 s5 x))
  | 0, j, r, h, hr => by
    refine .out _ _ ?_
    rw [step15a, dec_f (by omega : ¬ (j : Int) < (l.length : Int)), (List.drop_eq_nil_of_le (by omega) : l.drop j = [])]
    simp [ifb]
  | k + 1, j, r, h, hr => by
    have hj : j < l.length := by omega
    have hst := step15a nn pt l.length j r.length l r m0 m1 m2 m3 m4 m5 s0 s1 s2 s3 s4 s5
    rw [dec_t (by omega : (j : Int) < (l.length : Int)), dec_t (by omega : (0 : Int) ≤ j), dec_t (by omega : r.length + 1 ≤ 4294967296), Int.toNat_natCast, wrap_suc (by omega), List.drop_zero, reL_eq] at hst
    have hg : l.getD j (dflt (.st .Learnt)) = l[j] := by simp [List.getD, hj]
    rw [hg] at hst
    rw [List.drop_eq_getElem_cons hj, List.filter_cons]
    cases hq : eqA6 l[j].MAC s0 s1 s2 s3 s4 s5 with
    | true =>
      rw [hq] at hst
      simp only [q6, hq, Bool.not_true, Bool.false_eq_true, if_false]
      exact .go _ _ _ hst (runs15a nn pt l m0 m1 m2 m3 m4 m5 s0 s1 s2 s3 s4 s5 hl k (j + 1) r (by omega) (by omega))
    | false =>
      rw [hq] at hst
      simp only [q6, hq, Bool.not_false, if_true]
      have := runs15a nn pt l m0 m1 m2 m3 m4 m5 s0 s1 s2 s3 s4 s5 hl k (j + 1) (r ++ [l[j]]) (by omega) (by simp; omega)
      have e2 : r ++ [l[j]] ++ (l.drop (j + 1)).filter (fun x => !q6 s0 s1 s2 s3 s4 s5 x) = r ++ l[j] :: (l.drop (j + 1)).filter (fun x => !q6 s0 s1 s2 s3 s4 s5 x) := by simp
      have e3 : (r ++ [l[j]]).length = r.length + 1 := by simp
      rw [e2, e3] at this
      exact .go _ _ _ hst this
noncomputable def out15a : LT15a → Out (Ex × St)
  | (nn, pt, _, _, len, l, n, i, m, (s0, s1, s2, s3, s4, s5, _), r, _) => .br (decide (len = r.length) && (decide (r.length = 0) && (decide (i = 0) && (decide (n = (l.length : Nat)) && decide (l.length < 2147483648)))))
    (.ok (exit15a nn pt (l.filter fun x => !q6 s0 s1 s2 s3 s4 s5 x).length m (s0, s1, s2, s3, s4, s5, ()) (l.filter fun x => !q6 s0 s1 s2 s3 s4 s5 x))) .bad
noncomputable def ls15a : LSpec := lspecOf 0 nrm15a sp15a out15a
theorem ls15a_ok : LSpecOK cfg9.P l15a ls15a := by
  refine lspec_ok (fun s => nrmL_ok) ?_
  rintro ⟨nn, pt, ⟨⟩, ⟨⟩, len, l, n, i, ⟨m0, m1, m2, m3, m4, m5, ⟨⟩⟩, ⟨s0, s1, s2, s3, s4, s5, ⟨⟩⟩, r, ⟨⟩⟩ p hp
  rcases hp with ⟨hc, hp⟩ | ⟨_, hp⟩
  case inr => exact hp.elim
  simp only [Bool.and_eq_true, decide_eq_true_eq] at hc
  obtain ⟨rfl, hr, rfl, rfl, hl⟩ := hc
  obtain rfl := List.eq_nil_of_length_eq_zero hr
  obtain rfl : _ = p := hp
  have hr := runs_ok cfg9_ok cfg9_lp (fun s => nrmL_ok) (lpx (f := 15) (by kernel_rfl)) (fun x => Nat.zero_le _) (runs15a nn pt l m0 m1 m2 m3 m4 m5 s0 s1 s2 s3 s4 s5 hl l.length 0 [] (by omega) (Nat.le_refl _))
  rw [List.drop_zero, List.nil_append] at hr
  exact hr

theorem runs15b (nn pt : Int) (k l : List LearntS) (m0 m1 m2 m3 m4 m5 : Int) (hl : l.length < 4294967296) : ∀ (c j : Nat), j + c = l.length →
    Runs (stepL cfg9 40 15 0 2 nrm15b [8, 9] [0, 1, 2] sp15b l15b) (k, nn, pt, (), l, (l.length : Int), (j : Int), (m0, m1, m2, m3, m4, m5, ()), ())
      (ifb (is255 m0 m1 m2 m3 m4 m5) (exit15b k nn pt) (match fnd16 m0 m1 m2 m3 m4 m5 (l.drop j) with | some x => ifb (x.Port == pt) (retN15 k) (retP15 k x.Port) | none => exit15b k nn pt))
  | 0, j, h => by
    refine .out _ _ ?_
    rw [step15b, dec_f (by omega : ¬ (j : Int) < (l.length : Int)), List.drop_eq_nil_of_le (by omega)]
    cases is255 m0 m1 m2 m3 m4 m5 <;> rfl
  | c + 1, j, h => by
    have hj : j < l.length := by omega
    have hst := step15b nn pt l.length j k l m0 m1 m2 m3 m4 m5
    rw [dec_t (by omega : (j : Int) < (l.length : Int)), dec_t (by omega : (0 : Int) ≤ j), Int.toNat_natCast, wrap_suc (by omega)] at hst
    have hg : l.getD j (dflt (.st .Learnt)) = l[j] := by simp [List.getD, hj]
    rw [hg] at hst
    have ih := runs15b nn pt k l m0 m1 m2 m3 m4 m5 hl c (j + 1) (by omega)
    rw [List.drop_eq_getElem_cons hj]
    simp only [fnd16, List.find?_cons] at ih ⊢
    cases hq : eqA6 l[j].MAC m0 m1 m2 m3 m4 m5 with
    | true =>
      rw [hq] at hst
      revert hst ih
      cases is255 m0 m1 m2 m3 m4 m5 with
      | true => intro hst ih; exact .go _ _ _ hst ih
      | false =>
        intro hst ih
        refine .out _ _ (hst.trans ?_)
        show ifb (l[j].Port == pt) (some (Sum.inr (retN15 k) : LT15b ⊕ (Ex × St))) (some (Sum.inr (retP15 k l[j].Port))) = some (Sum.inr (ifb (l[j].Port == pt) (retN15 k) (retP15 k l[j].Port)))
        cases l[j].Port == pt <;> rfl
    | false =>
      rw [hq] at hst
      exact .go _ _ _ hst ih
noncomputable def out15b : LT15b → Out (Ex × St)
  | (k, nn, pt, _, l, n, i, (m0, m1, m2, m3, m4, m5, _), _) => .br (decide (n = (l.length : Nat)) && (decide (i = 0) && decide (l.length < 4294967296)))
    (.br (is255 m0 m1 m2 m3 m4 m5) (.ok (exit15b k nn pt)) (.br (isSome (fnd16 m0 m1 m2 m3 m4 m5 l))
      (.br ((match fnd16 m0 m1 m2 m3 m4 m5 l with | some x => x.Port | none => 0) == pt) (.ok (retN15 k)) (.ok (retP15 k (match fnd16 m0 m1 m2 m3 m4 m5 l with | some x => x.Port | none => 0))))
      (.ok (exit15b k nn pt)))) .bad
noncomputable def ls15b : LSpec := lspecOf 0 nrm15b sp15b out15b
theorem ls15b_ok : LSpecOK cfg9.P l15b ls15b := by
  refine lspec_ok (fun s => nrmL_ok) ?_
  rintro ⟨k, nn, pt, ⟨⟩, l, n, i, ⟨m0, m1, m2, m3, m4, m5, ⟨⟩⟩, ⟨⟩⟩ p hp
  rcases hp with ⟨hc, hp⟩ | ⟨_, hp⟩
  case inr => exact hp.elim
  simp only [Bool.and_eq_true, decide_eq_true_eq] at hc
  obtain ⟨rfl, rfl, hl⟩ := hc
  have hr := runs_ok cfg9_ok cfg9_lp (fun s => nrmL_ok) (lpx (f := 15) (by kernel_rfl)) (fun x => Nat.zero_le _) (runs15b nn pt k l m0 m1 m2 m3 m4 m5 hl l.length 0 (by omega))
  rw [List.drop_zero] at hr
  rcases hp with ⟨h1, hp⟩ | ⟨h1, hp⟩
  · obtain rfl : _ = p := hp
    rw [h1] at hr
    exact hr
  rw [h1] at hr
  rcases hp with ⟨h2, hp⟩ | ⟨h2, hp⟩
  · revert h2 hp hr
    cases fnd16 m0 m1 m2 m3 m4 m5 l with
    | none => intro _ h2; cases h2
    | some x =>
      intro hr _ hp
      rcases hp with ⟨h3, hp⟩ | ⟨h3, hp⟩
      · obtain rfl : _ = p := hp
        simp only at h3 hr
        rw [h3] at hr
        exact hr
      · obtain rfl : _ = p := hp
        simp only at h3 hr
        rw [h3] at hr
        exact hr
  · obtain rfl : _ = p := hp
    revert h2 hr
    cases fnd16 m0 m1 m2 m3 m4 m5 l with
    | none => intro hr _; exact hr
    | some x => intro _ h2; cases h2

theorem runs15c (pt : Int) (K : List LearntS) : ∀ (k j : Nat) (r : List Int), j + k < 1000000 → r.length ≤ j →
    Runs (stepL cfg9 40 15 0 4 nrm15c [] [0, 17] sp15c l15c) (K, ((j + k : Nat) : Int), pt, r.length, (j : Int), r, ())
      (exit15c K (r ++ prts pt k j).length (r ++ prts pt k j))
  | 0, j, r, h, hr => by
    refine .out _ _ ?_
    rw [step15c, dec_f (by omega : ¬ (j : Int) < ((j + 0 : Nat) : Int))]
    simp [prts, ifb]
  | k + 1, j, r, h, hr => by
    have hst := step15c ((j + (k + 1) : Nat) : Int) pt j K r.length r
    rw [dec_t (by omega : (j : Int) < ((j + (k + 1) : Nat) : Int)), dec_t (by omega : r.length + 1 ≤ 4294967296), wrap_suc (by omega), List.drop_zero] at hst
    simp only [prts]
    have e : j + (k + 1) = (j + 1) + k := by omega
    cases hq : (j : Int) == pt with
    | true =>
      rw [hq] at hst
      rw [e] at hst ⊢
      exact .go _ _ _ hst (runs15c pt K k (j + 1) r (by omega) (by omega))
    | false =>
      rw [hq] at hst
      rw [e] at hst ⊢
      have := runs15c pt K k (j + 1) (r ++ [(j : Int)]) (by omega) (by simp; omega)
      have e2 : r ++ [(j : Int)] ++ prts pt k (j + 1) = r ++ (j : Int) :: prts pt k (j + 1) := by simp
      have e3 : (r ++ [(j : Int)]).length = r.length + 1 := by simp
      rw [e2, e3] at this
      exact .go _ _ _ hst this
noncomputable def out15c : LT15c → Out (Ex × St)
  | (k, nn, pt, len, i, r, _) => .br (decide (len = r.length) && (decide (r.length = 0) && (decide (i = 0) && (decide (0 ≤ nn) && decide (nn < 1000000)))))
    (.ok (exit15c k (prts pt nn.toNat 0).length (prts pt nn.toNat 0))) .bad
noncomputable def ls15c : LSpec := lspecOf 0 nrm15c sp15c out15c
theorem ls15c_ok : LSpecOK cfg9.P l15c ls15c := by
  refine lspec_ok (fun s => nrmL_ok) ?_
  rintro ⟨k, nn, pt, len, i, r, ⟨⟩⟩ p hp
  rcases hp with ⟨hc, hp⟩ | ⟨_, hp⟩
  case inr => exact hp.elim
  simp only [Bool.and_eq_true, decide_eq_true_eq] at hc
  obtain ⟨rfl, hr, rfl, h0, h1⟩ := hc
  obtain rfl := List.eq_nil_of_length_eq_zero hr
  obtain ⟨n, rfl⟩ := Int.eq_ofNat_of_zero_le h0
  obtain rfl : _ = p := hp
  have hr := runs_ok cfg9_ok cfg9_lp (fun s => nrmL_ok) (lpx (f := 15) (by kernel_rfl)) (fun x => Nat.zero_le _) (runs15c pt k n 0 [] (by omega) (Nat.le_refl _))
  rw [Nat.zero_add, List.nil_append] at hr
  exact hr
noncomputable def cfg10 : Cfg := addL (addL (addL cfg9 15 0 ls15a) 15 2 ls15b) 15 4 ls15c
theorem cfg10_ok : CfgOK cfg10 := addL_ok (addL_ok (addL_ok cfg9_ok))
theorem f15_at : cfg0.P.funcs[15]? = some Proofs.Tryz.f15 := by kernel_rfl
theorem cfg10_lp : LpAll cfg10 := addL_lp (addL_lp (addL_lp cfg9_lp f15_at (by kernel_rfl) ls15a_ok) f15_at (by kernel_rfl) ls15b_ok) f15_at (by kernel_rfl) ls15c_ok

noncomputable def ap15 : APtn (List LearntS × Int × Int × FrT × Unit) := aArgs (lCons (pImm (.st .Learnt)) (lCons (pInt .i64) (lCons (pInt .i64) (lCons pFr lNil))))
def ptR (K : List LearntS) (ps : List Int) : Option (AV × AH) := some (.tup [.imm (.st .Learnt) K, .imm .i64 ps], [])
def ptC (nn pt : Int) (K : List LearntS) : Option (AV × AH) :=
  ifb (decide (0 = ([] : List Int).length) && (decide (([] : List Int).length = 0) && (decide ((0 : Int) = 0) && (decide (0 ≤ nn) && decide (nn < 1000000)))))
    (ptR K (((prts pt nn.toNat 0).drop 0).take (prts pt nn.toNat 0).length)) none
def ptB (nn pt m0 m1 m2 m3 m4 m5 : Int) (K : List LearntS) : Option (AV × AH) :=
  ifb (decide ((K.length : Int) = (K.length : Nat)) && (decide ((0 : Int) = 0) && decide (K.length < 4294967296)))
    (ifb (is255 m0 m1 m2 m3 m4 m5) (ptC nn pt K) (ifb (isSome (fnd16 m0 m1 m2 m3 m4 m5 K))
      (ifb ((match fnd16 m0 m1 m2 m3 m4 m5 K with | some x => x.Port | none => 0) == pt) (ptR K []) (ptR K [match fnd16 m0 m1 m2 m3 m4 m5 K with | some x => x.Port | none => 0]))
      (ptC nn pt K))) none
def ptA (nn pt : Int) (F : List UInt8) (l : List LearntS) : Option (AV × AH) :=
  ifb (okS 6 F.length F.length) (ifb (bitI .and .u8 (gI (srcF F) 0) 1 == 0)
    (ifb (decide (0 = ([] : List LearntS).length) && (decide (([] : List LearntS).length = 0) && (decide ((0 : Int) = 0) && (decide ((l.length : Int) = (l.length : Nat)) && decide (l.length < 2147483648)))))
      (ifb (((l.filter fun x => !q6 (gI (srcF F) 0) (gI (srcF F) 1) (gI (srcF F) 2) (gI (srcF F) 3) (gI (srcF F) 4) (gI (srcF F) 5) x).length : Int) == 16)
        (ifb (okS 1 (l.filter fun x => !q6 (gI (srcF F) 0) (gI (srcF F) 1) (gI (srcF F) 2) (gI (srcF F) 3) (gI (srcF F) 4) (gI (srcF F) 5) x).length (l.filter fun x => !q6 (gI (srcF F) 0) (gI (srcF F) 1) (gI (srcF F) 2) (gI (srcF F) 3) (gI (srcF F) 4) (gI (srcF F) 5) x).length)
          (ifb (decide ((((l.filter fun x => !q6 (gI (srcF F) 0) (gI (srcF F) 1) (gI (srcF F) 2) (gI (srcF F) 3) (gI (srcF F) 4) (gI (srcF F) 5) x).length : Int) - 1).toNat + 1 ≤ 4294967296))
            (ptB nn pt (gI F 0) (gI F 1) (gI F 2) (gI F 3) (gI F 4) (gI F 5) (((((l.filter fun x => !q6 (gI (srcF F) 0) (gI (srcF F) 1) (gI (srcF F) 2) (gI (srcF F) 3) (gI (srcF F) 4) (gI (srcF F) 5) x).drop (0 + (1 : Int).toNat)) ++ [mkLe (gI (srcF F) 0) (gI (srcF F) 1) (gI (srcF F) 2) (gI (srcF F) 3) (gI (srcF F) 4) (gI (srcF F) 5) pt]).drop 0).take ((((l.filter fun x => !q6 (gI (srcF F) 0) (gI (srcF F) 1) (gI (srcF F) 2) (gI (srcF F) 3) (gI (srcF F) 4) (gI (srcF F) 5) x).length : Int) - 1).toNat + 1))) none) none)
        (ifb (decide ((l.filter fun x => !q6 (gI (srcF F) 0) (gI (srcF F) 1) (gI (srcF F) 2) (gI (srcF F) 3) (gI (srcF F) 4) (gI (srcF F) 5) x).length + 1 ≤ 4294967296))
          (ptB nn pt (gI F 0) (gI F 1) (gI F 2) (gI F 3) (gI F 4) (gI F 5) (((((l.filter fun x => !q6 (gI (srcF F) 0) (gI (srcF F) 1) (gI (srcF F) 2) (gI (srcF F) 3) (gI (srcF F) 4) (gI (srcF F) 5) x).drop 0) ++ [mkLe (gI (srcF F) 0) (gI (srcF F) 1) (gI (srcF F) 2) (gI (srcF F) 3) (gI (srcF F) 4) (gI (srcF F) 5) pt]).drop 0).take ((l.filter fun x => !q6 (gI (srcF F) 0) (gI (srcF F) 1) (gI (srcF F) 2) (gI (srcF F) 3) (gI (srcF F) 4) (gI (srcF F) 5) x).length + 1))) none)) none)
    (ptB nn pt (gI F 0) (gI F 1) (gI F 2) (gI F 3) (gI F 4) (gI F 5) l)) none
theorem call15 (nn pt : Int) (l : List LearntS) (d0 d1 d2 d3 d4 d5 s0 s1 s2 s3 s4 s5 : UInt8) (f : List UInt8) :
    callIn cfg10 40 15 (ap15.args (l, nn, pt, ((d0, d1, d2, d3, d4, d5), (s0, s1, s2, s3, s4, s5), f), ())) (ap15.heap (l, nn, pt, ((d0, d1, d2, d3, d4, d5), (s0, s1, s2, s3, s4, s5), f), ())) ap15.names (fun v h _ => some (finA [(1, .i64)] v h)) =
      ptA nn pt (d0 :: d1 :: d2 :: d3 :: d4 :: d5 :: s0 :: s1 :: s2 :: s3 :: s4 :: s5 :: f) l := by kernel_rfl
end Go.Eng

set_option linter.unusedVariables false
set_option linter.unusedSimpArgs false
namespace Go.Eng
open Go.RowKit

theorem srcF_eq (d0 d1 d2 d3 d4 d5 : UInt8) (r : List UInt8) : srcF (d0 :: d1 :: d2 :: d3 :: d4 :: d5 :: r) = r := by
  unfold srcF
  exact List.take_of_length_le (by simp only [List.length_cons, List.drop_succ_cons, List.drop_zero]; omega)
theorem gI_6 (a0 a1 a2 a3 a4 a5 : UInt8) (r : List UInt8) : gI (a0 :: a1 :: a2 :: a3 :: a4 :: a5 :: r) 0 = (a0.toNat : Int) ∧ gI (a0 :: a1 :: a2 :: a3 :: a4 :: a5 :: r) 1 = (a1.toNat : Int) ∧ gI (a0 :: a1 :: a2 :: a3 :: a4 :: a5 :: r) 2 = (a2.toNat : Int) ∧
    gI (a0 :: a1 :: a2 :: a3 :: a4 :: a5 :: r) 3 = (a3.toNat : Int) ∧ gI (a0 :: a1 :: a2 :: a3 :: a4 :: a5 :: r) 4 = (a4.toNat : Int) ∧ gI (a0 :: a1 :: a2 :: a3 :: a4 :: a5 :: r) 5 = (a5.toNat : Int) := by
  refine ⟨?_, ?_, ?_, ?_, ?_, ?_⟩ <;> · unfold gI; rw [dec_t (by simp only [List.length_cons]; omega)]; rfl
def grpB (s : UInt8) : Bool := bitI .and .u8 (s.toNat : Int) 1 == 1
theorem grp_fin : ∀ n : Fin 256, (bitI .and .u8 ((n.val : Nat) : Int) 1 == 0) = !(bitI .and .u8 ((n.val : Nat) : Int) 1 == 1) := by decide +kernel
theorem grp_not (s : UInt8) : (bitI .and .u8 (s.toNat : Int) 1 == 0) = !grpB s := grp_fin ⟨s.toNat, s.toNat_lt⟩
/-- What is known then; the ports. -/
def lrn (s0 s1 s2 s3 s4 s5 : UInt8) (pt : Int) (l : List LearntS) : List LearntS := ifb (grpB s0) l (learnF s0.toNat s1.toNat s2.toNat s3.toNat s4.toNat s5.toNat pt l)
def prF (d0 d1 d2 d3 d4 d5 : UInt8) (nn pt : Int) (K : List LearntS) : List Int :=
  ifb (is255 d0.toNat d1.toNat d2.toNat d3.toNat d4.toNat d5.toNat) (prts pt nn.toNat 0) (match fnd16 d0.toNat d1.toNat d2.toNat d3.toNat d4.toNat d5.toNat K with
    | some x => ifb (x.Port == pt) [] [x.Port]
    | none => prts pt nn.toNat 0)
theorem drop_take {α : Type} (l : List α) : (l.drop 0).take l.length = l := by rw [List.drop_zero, List.take_length]
theorem learnF_len (m0 m1 m2 m3 m4 m5 p : Int) (l : List LearntS) : (learnF m0 m1 m2 m3 m4 m5 p l).length ≤ l.length + 1 := by
  have := List.length_filter_le (fun x => !q6 m0 m1 m2 m3 m4 m5 x) l
  simp only [learnF, List.length_append, List.length_singleton, cut16]
  split
  · rw [List.length_drop]; omega
  · omega
theorem fwB_eq {nn pt : Int} {d0 d1 d2 d3 d4 d5 : UInt8} {L : List LearntS} (h0 : 0 ≤ nn) (h1 : nn < 1000000) (hL : L.length < 4294967296) :
    fwB nn pt d0.toNat d1.toNat d2.toNat d3.toNat d4.toNat d5.toNat L = fwR nn L (prF d0 d1 d2 d3 d4 d5 nn pt L) 0 := by
  have hP : fwP nn pt L = fwR nn L (prts pt nn.toNat 0) 0 := by
    unfold fwP
    rw [dec_t h0, dec_t h1, drop_take]
    rfl
  unfold fwB prF
  rw [dec_t hL, hP]
  cases is255 d0.toNat d1.toNat d2.toNat d3.toNat d4.toNat d5.toNat with
  | true => cases fnd16 d0.toNat d1.toNat d2.toNat d3.toNat d4.toNat d5.toNat L <;> rfl
  | false =>
    cases fnd16 d0.toNat d1.toNat d2.toNat d3.toNat d4.toNat d5.toNat L with
    | none => rfl
    | some x =>
      show ifb (x.Port == pt) (fwR nn L [] 0) (fwR nn L [x.Port] 0) = fwR nn L (ifb (x.Port == pt) [] [x.Port]) 0
      cases x.Port == pt <;> rfl
noncomputable def fout14 : BrT × Int × FrT × Unit → Out (AV × AH)
  | ((nn, l, _), pt, ((d0, d1, d2, d3, d4, d5), (s0, s1, s2, s3, s4, s5), f), _) => .br (decide (0 ≤ pt) && (decide (pt < nn) && (decide (nn < 1000000) && (decide (2 ≤ f.length) && decide (l.length < 2147483000)))))
    (.ok (.tup [.agg [.int .i64 nn, .imm (.st .Learnt) (lrn s0 s1 s2 s3 s4 s5 pt l)], .imm .i64 (prF d0 d1 d2 d3 d4 d5 nn pt (lrn s0 s1 s2 s3 s4 s5 pt l)), .int .i64 0], [])) .bad
theorem en14 : Enters cfg0.P 14 := enters_of f14_at (cfg0_ok.names 14 _ f14_at) (by kernel_rfl)
theorem spec14_ok : SpecOK cfg9.P 14 (specOfF ap14 fout14) := by
  refine specF_ok cfg9_ok cfg9_lp (n := 40) [(1, .i64)] en14 ?_
  rintro ⟨⟨nn, l, ⟨⟩⟩, pt, ⟨⟨d0, d1, d2, d3, d4, d5⟩, ⟨s0, s1, s2, s3, s4, s5⟩, f⟩, ⟨⟩⟩ p hp
  rcases hp with ⟨hc, hp⟩ | ⟨_, hp⟩
  case inr => exact hp.elim
  obtain rfl : _ = p := hp
  simp only [Bool.and_eq_true, decide_eq_true_eq] at hc
  obtain ⟨h1, h2, h3, h4, h5⟩ := hc
  have hlen : (d0 :: d1 :: d2 :: d3 :: d4 :: d5 :: s0 :: s1 :: s2 :: s3 :: s4 :: s5 :: f).length = f.length + 12 := rfl
  obtain ⟨e0, e1, e2, e3, e4, e5⟩ := gI_6 d0 d1 d2 d3 d4 d5 (s0 :: s1 :: s2 :: s3 :: s4 :: s5 :: f)
  obtain ⟨g0, g1, g2, g3, g4, g5⟩ := gI_6 s0 s1 s2 s3 s4 s5 f
  rw [call14, dec_t (by omega : 0 + l.length ≤ 4294967296), drop_take]
  unfold fwA
  rw [srcF_eq, e0, e1, e2, e3, e4, e5, g0, g1, g2, g3, g4, g5, hlen, dec_f (by omega : ¬ pt < 0), dec_f (by omega : ¬ pt ≥ nn), dec_f (by omega : ¬ ((f.length + 12 : Nat) : Int) < 14), okS_t (by omega) (by omega) (by omega), dec_t (by omega : l.length < 2147483648)]
  have hl := learnF_len s0.toNat s1.toNat s2.toNat s3.toNat s4.toNat s5.toNat pt l
  rw [fwB_eq (by omega) h3 (by omega), fwB_eq (by omega) h3 (by omega)]
  show ifb (!grpB s0) _ _ = _
  unfold lrn
  cases grpB s0 <;> rfl

theorem ptB_eq {nn pt : Int} {d0 d1 d2 d3 d4 d5 : UInt8} {K : List LearntS} (h0 : 0 ≤ nn) (h1 : nn < 1000000) (hL : K.length < 4294967296) :
    ptB nn pt d0.toNat d1.toNat d2.toNat d3.toNat d4.toNat d5.toNat K = ptR K (prF d0 d1 d2 d3 d4 d5 nn pt K) := by
  have hP : ptC nn pt K = ptR K (prts pt nn.toNat 0) := by
    unfold ptC
    rw [dec_t h0, dec_t h1, drop_take]
    rfl
  unfold ptB prF
  rw [dec_t rfl, dec_t rfl, dec_t hL, hP]
  cases is255 d0.toNat d1.toNat d2.toNat d3.toNat d4.toNat d5.toNat with
  | true => rfl
  | false =>
    cases fnd16 d0.toNat d1.toNat d2.toNat d3.toNat d4.toNat d5.toNat K with
    | none => rfl
    | some x =>
      show ifb (x.Port == pt) (ptR K []) (ptR K [x.Port]) = ptR K (ifb (x.Port == pt) [] [x.Port])
      cases x.Port == pt <;> rfl
noncomputable def fout15 : List LearntS × Int × Int × FrT × Unit → Out (AV × AH)
  | (l, nn, pt, ((d0, d1, d2, d3, d4, d5), (s0, s1, s2, s3, s4, s5), f), _) => .br (decide (0 ≤ nn) && (decide (nn < 1000000) && decide (l.length ≤ 16)))
    (.ok (.tup [.imm (.st .Learnt) (lrn s0 s1 s2 s3 s4 s5 pt l), .imm .i64 (prF d0 d1 d2 d3 d4 d5 nn pt (lrn s0 s1 s2 s3 s4 s5 pt l))], [])) .bad
theorem en15 : Enters cfg0.P 15 := enters_of f15_at (cfg0_ok.names 15 _ f15_at) (by kernel_rfl)
theorem spec15_ok : SpecOK cfg10.P 15 (specOfF ap15 fout15) := by
  refine specF_ok cfg10_ok cfg10_lp (n := 40) [(1, .i64)] en15 ?_
  rintro ⟨l, nn, pt, ⟨⟨d0, d1, d2, d3, d4, d5⟩, ⟨s0, s1, s2, s3, s4, s5⟩, f⟩, ⟨⟩⟩ p hp
  rcases hp with ⟨hc, hp⟩ | ⟨_, hp⟩
  case inr => exact hp.elim
  obtain rfl : _ = p := hp
  simp only [Bool.and_eq_true, decide_eq_true_eq] at hc
  obtain ⟨h1, h2, h3⟩ := hc
  have hlen : (d0 :: d1 :: d2 :: d3 :: d4 :: d5 :: s0 :: s1 :: s2 :: s3 :: s4 :: s5 :: f).length = f.length + 12 := rfl
  obtain ⟨e0, e1, e2, e3, e4, e5⟩ := gI_6 d0 d1 d2 d3 d4 d5 (s0 :: s1 :: s2 :: s3 :: s4 :: s5 :: f)
  obtain ⟨g0, g1, g2, g3, g4, g5⟩ := gI_6 s0 s1 s2 s3 s4 s5 f
  rw [call15]
  unfold ptA
  rw [srcF_eq, e0, e1, e2, e3, e4, e5, g0, g1, g2, g3, g4, g5, hlen, okS_t (by omega) (by omega) (by omega), grp_not]
  have hf := List.length_filter_le (fun x => !q6 s0.toNat s1.toNat s2.toNat s3.toNat s4.toNat s5.toNat x) l
  have hlr : lrn s0 s1 s2 s3 s4 s5 pt l = ifb (grpB s0) l (cut16 (l.filter fun x => !q6 s0.toNat s1.toNat s2.toNat s3.toNat s4.toNat s5.toNat x) ++ [mkLe s0.toNat s1.toNat s2.toNat s3.toNat s4.toNat s5.toNat pt]) := rfl
  simp only [fout15]
  rw [hlr]
  generalize l.filter (fun x => !q6 s0.toNat s1.toNat s2.toNat s3.toNat s4.toNat s5.toNat x) = F at hf
  generalize mkLe s0.toNat s1.toNat s2.toNat s3.toNat s4.toNat s5.toNat pt = x
  cases hg : grpB s0 with
  | true =>
    show ptB nn pt _ _ _ _ _ _ l = _
    rw [ptB_eq h1 h2 (by omega)]
    rfl
  | false =>
    rw [dec_t (by omega : l.length < 2147483648)]
    show ifb ((F.length : Int) == 16) _ _ = _
    by_cases h16 : F.length = 16
    · have hb : ((F.length : Int) == 16) = true := by simp; omega
      have hcut : cut16 F = F.drop 1 := by unfold cut16; rw [if_pos (by omega)]
      rw [hb, okS_t (by omega) (by omega) (by omega), dec_t (by omega : ((F.length : Int) - 1).toNat + 1 ≤ 4294967296), hcut]
      have hK : ((F.drop (0 + (1 : Int).toNat) ++ [x]).drop 0).take (((F.length : Int) - 1).toNat + 1) = F.drop 1 ++ [x] := by
        rw [List.drop_zero]
        exact List.take_of_length_le (by simp only [List.length_append, List.length_drop, List.length_singleton]; omega)
      show ptB nn pt _ _ _ _ _ _ (((F.drop (0 + (1 : Int).toNat) ++ [x]).drop 0).take (((F.length : Int) - 1).toNat + 1)) = _
      rw [hK, ptB_eq h1 h2 (by simp only [List.length_append, List.length_drop, List.length_singleton]; omega)]
      rfl
    · have hb : ((F.length : Int) == 16) = false := by simp; omega
      have hcut : cut16 F = F := by unfold cut16; rw [if_neg (by omega)]
      rw [hb, dec_t (by omega : F.length + 1 ≤ 4294967296), hcut]
      have hK : ((F.drop 0 ++ [x]).drop 0).take (F.length + 1) = F ++ [x] := by
        rw [List.drop_zero, List.drop_zero]
        exact List.take_of_length_le (by simp)
      show ptB nn pt _ _ _ _ _ _ (((F.drop 0 ++ [x]).drop 0).take (F.length + 1)) = _
      rw [hK, ptB_eq h1 h2 (by simp only [List.length_append, List.length_singleton]; omega)]
      rfl
noncomputable def cfg11 : Cfg := addS (addS cfg10 14 (specOfF ap14 fout14)) 15 (specOfF ap15 fout15)
theorem cfg11_ok : CfgOK cfg11 := addS_ok (addS_ok cfg10_ok spec14_ok) spec15_ok
theorem cfg11_lp : LpAll cfg11 := cfg10_lp
end Go.Eng

set_option linter.unusedVariables false
set_option linter.unusedSimpArgs false
namespace Go.Eng
open Go.RowKit

/-! ### WholeBridge: its inner loops -/

noncomputable def c3 : Code := bodyOf Proofs.Tryz.f3
abbrev LT3b := List TalkS × Bool × Int × Unit × List LearntS × Int × List Int × List Int × Int × Int × BrT × Unit
noncomputable def sp3b : SPtn LT3b := sSlot 1 (pImm (.st .Talk)) (sSlot 5 pBool (sSlot 6 (pInt .i64) (sSlot 7 (pPtr 0 0) (sSlot 9 (pImm (.st .Learnt)) (sSlot 10 (pInt .i64) (sSlot 16 (pImm .i64) (sSlot 19 (pImm .i64) (sSlot 104 (pInt .i64) (sSlot 105 (pInt .i64) (sBlk 0 (bExp lBr) (sNil 158 1)))))))))))
noncomputable def l3b : Code := loopB 2 c3
noncomputable def nrm3b := nrmL 0 (cfg11.keep 3 2) [] []
noncomputable def retF3 : Ex × St := (.ret, ⟨setT (tops 158) 4 (.bool false), [], 0⟩)
noncomputable def st3 (ts : List TalkS) (bo : Bool) (nn : Int) (K : List LearntS) (i0 nb : Int) (LB : List LearntS) : St := ⟨setT (setT (setT (setT (setT (setT (tops 158) 1 (.imm (.st .Talk) ts)) 5 (.bool bo)) 6 (.int .i64 nn)) 7 (.ptr 0 0)) 9 (.imm (.st .Learnt) K)) 10 (.int .i64 i0), [(0, .exp [.int .i64 nb, .imm (.st .Learnt) LB])], 1⟩
theorem step3b (ts : List TalkS) (bo : Bool) (nn i0 n i nb : Int) (K LB : List LearntS) (g w : List Int) :
    stepL cfg11 40 3 0 2 nrm3b [4] [1, 5, 6, 7, 9, 10] sp3b l3b (ts, bo, nn, (), K, i0, g, w, n, i, (nb, LB, ()), ()) =
      ifb (decide (i < n)) (ifb (decide (0 ≤ i) && decide (i < (g.length : Nat))) (ifb (decide (0 ≤ i) && decide (i < (w.length : Nat))) (ifb (!(g.getD i.toNat (dflt .i64) == w.getD i.toNat (dflt .i64)))
        (some (.inr retF3)) (some (.inl (ts, bo, nn, (), K, i0, g, w, n, IntKind.i64.wrap (i + 1), (nb, LB, ()), ())))) none) none)
        (some (.inr (.exit 2, st3 ts bo nn K i0 nb LB))) := by kernel_rfl
abbrev LT3c := List TalkS × Bool × Int × Unit × List LearntS × Int × Int × Int × BrT × Unit
noncomputable def sp3c : SPtn LT3c := sSlot 1 (pImm (.st .Talk)) (sSlot 5 pBool (sSlot 6 (pInt .i64) (sSlot 7 (pPtr 0 0) (sSlot 9 (pImm (.st .Learnt)) (sSlot 10 (pInt .i64) (sSlot 119 (pInt .i64) (sSlot 120 (pInt .i64) (sBlk 0 (bExp lBr) (sNil 158 1)))))))))
noncomputable def l3c : Code := loopB 4 c3
noncomputable def nrm3c := nrmL 0 (cfg11.keep 3 4) [] []
def eqLe (x y : LearntS) : Bool := eqA6 x.MAC y.MAC.b0.toNat y.MAC.b1.toNat y.MAC.b2.toNat y.MAC.b3.toNat y.MAC.b4.toNat y.MAC.b5.toNat && decide (x.Port = y.Port)
def k6 (y : LearntS) (L : List LearntS) : Option LearntS := fnd16 y.MAC.b0.toNat y.MAC.b1.toNat y.MAC.b2.toNat y.MAC.b3.toNat y.MAC.b4.toNat y.MAC.b5.toNat L
theorem step3c (ts : List TalkS) (bo : Bool) (nn i0 n i nb : Int) (K LB : List LearntS) :
    stepL cfg11 40 3 0 4 nrm3c [4] [1, 5, 6, 7, 9, 10] sp3c l3c (ts, bo, nn, (), K, i0, n, i, (nb, LB, ()), ()) =
      ifb (decide (i < n)) (ifb (decide (0 ≤ i) && decide (i < (K.length : Nat))) (ifb (decide (LB.length < 4294967296)) (ifb (decide (0 ≤ i) && decide (i < (LB.length : Nat))) (ifb (decide (0 ≤ i) && decide (i < (K.length : Nat)))
        (ifb (!eqLe (LB.getD i.toNat (dflt (.st .Learnt))) (K.getD i.toNat (dflt (.st .Learnt)))) (some (.inr retF3))
          (ifb (!isSome (k6 (K.getD i.toNat (dflt (.st .Learnt))) LB)) (some (.inr retF3))
            (ifb (decide (0 ≤ i) && decide (i < (K.length : Nat))) (ifb (!((match k6 (K.getD i.toNat (dflt (.st .Learnt))) LB with | some x => x.Port | none => 0) == (K.getD i.toNat (dflt (.st .Learnt))).Port)) (some (.inr retF3))
              (some (.inl (ts, bo, nn, (), K, i0, n, IntKind.i64.wrap (i + 1), (nb, LB, ()), ())))) none))) none) none) none) none)
        (some (.inr (.exit 4, st3 ts bo nn K i0 nb LB))) := by kernel_rfl

noncomputable def propB (p : Prop) : Bool := @decide p (Classical.propDecidable p)
theorem propB_t {p : Prop} (h : p) : propB p = true := by unfold propB; exact @decide_eq_true p (Classical.propDecidable p) h
theorem propB_of {p : Prop} (h : propB p = true) : p := by unfold propB at h; exact @of_decide_eq_true p (Classical.propDecidable p) h

theorem runs3b (ts : List TalkS) (bo : Bool) (nn i0 nb : Int) (K LB : List LearntS) (g : List Int) (hg : g.length < 4294967296) : ∀ (c j : Nat), j + c = g.length →
    Runs (stepL cfg11 40 3 0 2 nrm3b [4] [1, 5, 6, 7, 9, 10] sp3b l3b) (ts, bo, nn, (), K, i0, g, g, (g.length : Int), (j : Int), (nb, LB, ()), ()) (.exit 2, st3 ts bo nn K i0 nb LB)
  | 0, j, h => by
    refine .out _ _ ?_
    rw [step3b, dec_f (by omega : ¬ (j : Int) < (g.length : Int))]
    rfl
  | c + 1, j, h => by
    have hst := step3b ts bo nn i0 g.length j nb K LB g g
    rw [dec_t (by omega : (j : Int) < (g.length : Int)), dec_t (by omega : (0 : Int) ≤ j), wrap_suc (by omega), beq_self_eq_true] at hst
    exact .go _ _ _ hst (runs3b ts bo nn i0 nb K LB g hg c (j + 1) (by omega))
noncomputable def out3b : LT3b → Out (Ex × St)
  | (ts, bo, nn, _, K, i0, g, w, n, i, (nb, LB, _), _) => .br (propB (w = g ∧ n = (g.length : Nat) ∧ i = 0 ∧ g.length < 4294967296)) (.ok (.exit 2, st3 ts bo nn K i0 nb LB)) .bad
noncomputable def ls3b : LSpec := lspecOf 0 nrm3b sp3b out3b
theorem ls3b_ok : LSpecOK cfg11.P l3b ls3b := by
  refine lspec_ok (fun s => nrmL_ok) ?_
  rintro ⟨ts, bo, nn, ⟨⟩, K, i0, g, w, n, i, ⟨nb, LB, ⟨⟩⟩, ⟨⟩⟩ p hp
  rcases hp with ⟨hc, hp⟩ | ⟨_, hp⟩
  case inr => exact hp.elim
  obtain ⟨rfl, rfl, rfl, hg⟩ := propB_of hc
  obtain rfl : _ = p := hp
  exact runs_ok cfg11_ok cfg11_lp (fun s => nrmL_ok) (lpx (f := 3) (by kernel_rfl)) (fun x => Nat.zero_le _) (runs3b ts bo nn i0 nb K LB w hg w.length 0 (by omega))
/-- What is known is known at one port each. -/
def okL (K : List LearntS) : Prop := ∀ y ∈ K, ∃ x, k6 y K = some x ∧ x.Port = y.Port
theorem eqLe_self (x : LearntS) : eqLe x x = true := by simp [eqLe, eqA6]
theorem runs3c (ts : List TalkS) (bo : Bool) (nn i0 nb : Int) (K : List LearntS) (hg : K.length < 4294967296) (hk : okL K) : ∀ (c j : Nat), j + c = K.length →
    Runs (stepL cfg11 40 3 0 4 nrm3c [4] [1, 5, 6, 7, 9, 10] sp3c l3c) (ts, bo, nn, (), K, i0, (K.length : Int), (j : Int), (nb, K, ()), ()) (.exit 4, st3 ts bo nn K i0 nb K)
  | 0, j, h => by
    refine .out _ _ ?_
    rw [step3c, dec_f (by omega : ¬ (j : Int) < (K.length : Int))]
    rfl
  | c + 1, j, h => by
    have hst := step3c ts bo nn i0 K.length j nb K K
    have hj : j < K.length := by omega
    have hgd : K.getD j (dflt (.st .Learnt)) = K[j] := by simp [List.getD, hj]
    obtain ⟨x, hx, hp⟩ := hk K[j] (List.getElem_mem hj)
    rw [dec_t (by omega : (j : Int) < (K.length : Int)), dec_t (by omega : (0 : Int) ≤ j), Int.toNat_natCast, hgd, wrap_suc (by omega), eqLe_self, dec_t hg, hx] at hst
    simp only [hp, beq_self_eq_true] at hst
    exact .go _ _ _ hst (runs3c ts bo nn i0 nb K hg hk c (j + 1) (by omega))
noncomputable def out3c : LT3c → Out (Ex × St)
  | (ts, bo, nn, _, K, i0, n, i, (nb, LB, _), _) => .br (propB (LB = K ∧ n = (K.length : Nat) ∧ i = 0 ∧ K.length < 4294967296 ∧ okL K)) (.ok (.exit 4, st3 ts bo nn K i0 nb LB)) .bad
noncomputable def ls3c : LSpec := lspecOf 0 nrm3c sp3c out3c
theorem ls3c_ok : LSpecOK cfg11.P l3c ls3c := by
  refine lspec_ok (fun s => nrmL_ok) ?_
  rintro ⟨ts, bo, nn, ⟨⟩, K, i0, n, i, ⟨nb, LB, ⟨⟩⟩, ⟨⟩⟩ p hp
  rcases hp with ⟨hc, hp⟩ | ⟨_, hp⟩
  case inr => exact hp.elim
  obtain ⟨rfl, rfl, rfl, hg, hk⟩ := propB_of hc
  obtain rfl : _ = p := hp
  exact runs_ok cfg11_ok cfg11_lp (fun s => nrmL_ok) (lpx (f := 3) (by kernel_rfl)) (fun x => Nat.zero_le _) (runs3c ts bo nn i0 nb LB hg hk LB.length 0 (by omega))
noncomputable def cfg12 : Cfg := addL (addL cfg11 3 2 ls3b) 3 4 ls3c
theorem cfg12_ok : CfgOK cfg12 := addL_ok (addL_ok cfg11_ok)
theorem f3_at : cfg0.P.funcs[3]? = some Proofs.Tryz.f3 := by kernel_rfl
theorem cfg12_lp : LpAll cfg12 := addL_lp (addL_lp cfg11_lp f3_at (by kernel_rfl) ls3b_ok) f3_at (by kernel_rfl) ls3c_ok
abbrev LT3 := List TalkS × Bool × Int × Unit × List LearntS × Int × BrT × Unit
noncomputable def sp3 : SPtn LT3 := sSlot 1 (pImm (.st .Talk)) (sSlot 5 pBool (sSlot 6 (pInt .i64) (sSlot 7 (pPtr 0 0) (sSlot 9 (pImm (.st .Learnt)) (sSlot 10 (pInt .i64) (sBlk 0 (bExp lBr) (sNil 158 1)))))))
noncomputable def l3 : Code := loopB 0 c3
noncomputable def nrm3 := nrmL 0 (cfg12.keep 3 0) [] [.cell 7 1 (.st .Learnt), .slot 9 (.st .Learnt)]
end Go.Eng

set_option linter.unusedVariables false
set_option linter.unusedSimpArgs false
namespace Go.Eng
open Go.RowKit

/-! ### WholeBridge: its loop -/

def u8i (b : UInt8) : UInt8 := UInt8.ofNat ((b.toNat : Nat) : Int).toNat
theorem u8i_eq (b : UInt8) : u8i b = b := by simp [u8i]
def lrA (s : A6) (pt : Int) (l : List LearntS) : List LearntS := lrn (u8i s.b0) (u8i s.b1) (u8i s.b2) (u8i s.b3) (u8i s.b4) (u8i s.b5) pt l
def prA (d : A6) (nn pt : Int) (K : List LearntS) : List Int := prF (u8i d.b0) (u8i d.b1) (u8i d.b2) (u8i d.b3) (u8i d.b4) (u8i d.b5) nn pt K
noncomputable def exit3 (bo : Bool) : Ex × St := (.exit 0, ⟨setT (tops 158) 5 (.bool bo), [], 0⟩)
noncomputable def rest3 (ts : List TalkS) (bo : Bool) (nn i nb : Int) (x : TalkS) (K K' LB' : List LearntS) (g w : List Int) : Option (LT3 ⊕ (Ex × St)) :=
  ifb (!((g.length : Int) == (w.length : Int))) (some (.inr retF3)) (ifb (!((LB'.length : Int) == (K'.length : Int))) (some (.inr retF3))
    (ifb (propB (w = g ∧ (g.length : Int) = (g.length : Nat) ∧ (0 : Int) = 0 ∧ g.length < 4294967296))
      (ifb (propB (LB' = K' ∧ (K'.length : Int) = (K'.length : Nat) ∧ (0 : Int) = 0 ∧ K'.length < 4294967296 ∧ okL K'))
        (some (.inl (ts, bo, nn, (), K', IntKind.i64.wrap (i + 1), (nb, LB', ()), ()))) none) none))
noncomputable def body3 (ts : List TalkS) (bo : Bool) (nn i nb : Int) (x : TalkS) (K LB : List LearntS) : Option (LT3 ⊕ (Ex × St)) :=
  ifb (decide (0 ≤ pickF x.A 4) && decide (pickF x.A 4 < (4 : Nat))) (ifb (decide (0 ≤ pickF x.B 4) && decide (pickF x.B 4 < (4 : Nat)))
    (ifb (decide (x.S.length = x.S.length) && decide (x.S.length < 140737488351233)) (ifb (decide (0 < nn))
      (ifb (decide (0 ≤ pickF x.What nn) && (decide (pickF x.What nn < nb) && (decide (nb < 1000000) && (decide (2 ≤ x.S.length + 1 + 1) && decide (LB.length < 2147483000)))))
        (ifb (decide (0 ≤ nn) && (decide (nn < 1000000) && decide (K.length ≤ 16)))
          (rest3 ts bo nn i nb x K (lrA (cardF x.B) (pickF x.What nn) K) (lrA (cardF x.B) (pickF x.What nn) LB)
            (prA (cardF x.A) nb (pickF x.What nn) (lrA (cardF x.B) (pickF x.What nn) LB)) (prA (cardF x.A) nn (pickF x.What nn) (lrA (cardF x.B) (pickF x.What nn) K)))
          none) none) none) none) none) none
theorem step3 (ts : List TalkS) (bo : Bool) (nn i nb : Int) (K LB : List LearntS) :
    stepL cfg12 40 3 0 0 nrm3 [4] [5] sp3 l3 (ts, bo, nn, (), K, i, (nb, LB, ()), ()) =
      ifb (decide (i < (ts.length : Nat))) (ifb (decide (i < 80)) (ifb (decide (0 ≤ i) && decide (i < (ts.length : Nat))) (body3 ts bo nn i nb (ts.getD i.toNat (dflt (.st .Talk))) K LB) none) (some (.inr (exit3 bo)))) (some (.inr (exit3 bo))) := by kernel_rfl
end Go.Eng

set_option linter.unusedVariables false
set_option linter.unusedSimpArgs false
namespace Go.Eng
open Go.RowKit

theorem u8_nat (x y : UInt8) : ((x.toNat : Int) = (y.toNat : Int)) ↔ x = y := by
  constructor
  · intro h; exact UInt8.toNat_inj.1 (by omega)
  · rintro rfl; rfl
theorem eqA6_iff (x : A6) (y0 y1 y2 y3 y4 y5 : UInt8) : eqA6 x y0.toNat y1.toNat y2.toNat y3.toNat y4.toNat y5.toNat = true ↔ x = ⟨y0, y1, y2, y3, y4, y5⟩ := by
  obtain ⟨x0, x1, x2, x3, x4, x5⟩ := x
  simp only [eqA6, Bool.and_eq_true, decide_eq_true_eq, u8_nat, A6.mk.injEq]
abbrev uniq (K : List LearntS) : Prop := K.Pairwise fun x y => x.MAC ≠ y.MAC
theorem uniq_eq : ∀ {K : List LearntS}, uniq K → ∀ x ∈ K, ∀ y ∈ K, x.MAC = y.MAC → x = y
  | [], _, x, hx, _, _, _ => by cases hx
  | a :: K, h, x, hx, y, hy, e => by
    obtain ⟨h1, h2⟩ := List.pairwise_cons.1 h
    rcases List.mem_cons.1 hx with rfl | _
    · rcases List.mem_cons.1 hy with rfl | hy
      · rfl
      · exact absurd e (h1 y hy)
    · rename_i hx2
      rcases List.mem_cons.1 hy with rfl | hy
      · exact absurd e.symm (h1 x hx2)
      · exact uniq_eq h2 x hx2 y hy e
theorem okL_of {K : List LearntS} (h : uniq K) : okL K := by
  intro y hy
  have hy6 : eqA6 y.MAC y.MAC.b0.toNat y.MAC.b1.toNat y.MAC.b2.toNat y.MAC.b3.toNat y.MAC.b4.toNat y.MAC.b5.toNat = true := (eqA6_iff _ _ _ _ _ _ _).2 rfl
  cases hf : k6 y K with
  | none =>
    have := List.find?_eq_none.1 hf y hy
    exact absurd hy6 this
  | some x =>
    have h1 := List.find?_some hf
    have h2 := List.mem_of_find?_eq_some hf
    have h3 : x.MAC = y.MAC := (eqA6_iff _ _ _ _ _ _ _).1 h1
    exact ⟨x, rfl, by rw [uniq_eq h x h2 y hy h3]⟩
theorem lrn_ok {s0 s1 s2 s3 s4 s5 : UInt8} {pt : Int} {K : List LearntS} (h : uniq K) (hl : K.length ≤ 16) : uniq (lrn s0 s1 s2 s3 s4 s5 pt K) ∧ (lrn s0 s1 s2 s3 s4 s5 pt K).length ≤ 16 := by
  unfold lrn
  cases grpB s0 with
  | true => exact ⟨h, hl⟩
  | false =>
    simp only [ifb, learnF]
    have hf : uniq (K.filter fun x => !q6 s0.toNat s1.toNat s2.toNat s3.toNat s4.toNat s5.toNat x) := List.Pairwise.filter _ h
    have hm : ∀ x ∈ K.filter (fun x => !q6 s0.toNat s1.toNat s2.toNat s3.toNat s4.toNat s5.toNat x), x.MAC ≠ ⟨s0, s1, s2, s3, s4, s5⟩ := by
      intro x hx e
      have := (List.mem_filter.1 hx).2
      rw [q6, (eqA6_iff _ _ _ _ _ _ _).2 e] at this
      cases this
    have hn : (mkLe s0.toNat s1.toNat s2.toNat s3.toNat s4.toNat s5.toNat pt).MAC = ⟨s0, s1, s2, s3, s4, s5⟩ := by simp [mkLe]
    have hlen := List.length_filter_le (fun x => !q6 s0.toNat s1.toNat s2.toNat s3.toNat s4.toNat s5.toNat x) K
    generalize mkLe s0.toNat s1.toNat s2.toNat s3.toNat s4.toNat s5.toNat pt = z at hn
    generalize K.filter (fun x => !q6 s0.toNat s1.toNat s2.toNat s3.toNat s4.toNat s5.toNat x) = F at hf hm hlen
    unfold cut16
    split
    · refine ⟨List.pairwise_append.2 ⟨hf.sublist (List.drop_sublist 1 F), List.pairwise_singleton _ _, ?_⟩, ?_⟩
      · intro a ha b hb
        rw [List.mem_singleton.1 hb, hn]
        exact hm a (List.mem_of_mem_drop ha)
      · simp only [List.length_append, List.length_drop, List.length_singleton]; omega
    · refine ⟨List.pairwise_append.2 ⟨hf, List.pairwise_singleton _ _, ?_⟩, ?_⟩
      · intro a ha b hb
        rw [List.mem_singleton.1 hb, hn]
        exact hm a ha
      · simp only [List.length_append, List.length_singleton]; omega
theorem prts_le (pt : Int) (k j : Nat) : (prts pt k j).length ≤ k := prts_len pt k j
theorem prA_len (d : A6) (nn pt : Int) (K : List LearntS) (h : nn ≤ 1000) : (prA d nn pt K).length < 4294967296 := by
  have := prts_len pt nn.toNat 0
  unfold prA prF
  generalize is255 _ _ _ _ _ _ = b
  cases b with
  | true => show (prts pt nn.toNat 0).length < _; omega
  | false =>
    simp only [ifb]
    split
    · split <;> simp
    · omega
theorem runs3 (ts : List TalkS) (bo : Bool) (nn : Int) (h0 : 0 < nn) (h1 : nn ≤ 8) (hts : ∀ x ∈ ts, x.S.length < 140737488351233) : ∀ (c j : Nat) (K : List LearntS), (j : Int) ≤ 80 → j + c = 81 → uniq K → K.length ≤ 16 →
    Runs (stepL cfg12 40 3 0 0 nrm3 [4] [5] sp3 l3) (ts, bo, nn, (), K, (j : Int), (nn, K, ()), ()) (exit3 bo)
  | 0, j, K, hj, hc, hu, hl => by omega
  | c + 1, j, K, hj, hc, hu, hl => by
    have hst := step3 ts bo nn j nn K K
    by_cases hlt : j < ts.length
    · rw [dec_t (by omega : (j : Int) < (ts.length : Int))] at hst
      by_cases h80 : (j : Int) < 80
      · rw [dec_t h80, dec_t (by omega : (0 : Int) ≤ j), Int.toNat_natCast] at hst
        have hgd : ts.getD j (dflt (.st .Talk)) = ts[j] := by simp [List.getD, hlt]
        rw [hgd] at hst
        have hS := hts ts[j] (List.getElem_mem hlt)
        generalize ts[j] = x at hst hS
        have hA := pick_range (c := x.A) (n := 4) (by omega) (by omega)
        have hB := pick_range (c := x.B) (n := 4) (by omega) (by omega)
        have hW := pick_range (c := x.What) (n := nn) h0 (by omega)
        have hK := lrn_ok (s0 := u8i (cardF x.B).b0) (s1 := u8i (cardF x.B).b1) (s2 := u8i (cardF x.B).b2) (s3 := u8i (cardF x.B).b3) (s4 := u8i (cardF x.B).b4) (s5 := u8i (cardF x.B).b5) (pt := pickF x.What nn) hu hl
        have hbody : body3 ts bo nn j nn x K K = some (.inl (ts, bo, nn, (), lrA (cardF x.B) (pickF x.What nn) K, ((j + 1 : Nat) : Int), (nn, lrA (cardF x.B) (pickF x.What nn) K, ()), ())) := by
          unfold body3
          rw [dec_t hA.1, dec_t (by omega : pickF x.A 4 < ((4 : Nat) : Int)), dec_t hB.1, dec_t (by omega : pickF x.B 4 < ((4 : Nat) : Int)), dec_t rfl, dec_t hS, dec_t h0, dec_t hW.1, dec_t hW.2, dec_t (by omega : nn < 1000000), dec_t (by omega : 2 ≤ x.S.length + 1 + 1), dec_t (by omega : K.length < 2147483000), dec_t (by omega : (0 : Int) ≤ nn), dec_t hl]
          show rest3 ts bo nn j nn x K _ _ _ _ = _
          unfold rest3
          have hP := prA_len (cardF x.A) nn (pickF x.What nn) (lrA (cardF x.B) (pickF x.What nn) K) (by omega)
          rw [beq_self_eq_true, beq_self_eq_true, propB_t ⟨rfl, rfl, rfl, hP⟩, propB_t ⟨rfl, rfl, rfl, by have := hK.2; unfold lrA; omega, okL_of hK.1⟩, wrap_suc (by omega)]
          rfl
        rw [hbody] at hst
        exact .go _ _ _ hst (runs3 ts bo nn h0 h1 hts c (j + 1) _ (by omega) (by omega) hK.1 hK.2)
      · rw [dec_f h80] at hst
        exact .out _ _ hst
    · rw [dec_f (by omega : ¬ (j : Int) < (ts.length : Int))] at hst
      exact .out _ _ hst
noncomputable def out3 : LT3 → Out (Ex × St)
  | (ts, bo, nn, _, K, i, (nb, LB, _), _) => .br (propB (nb = nn ∧ LB = K ∧ i = 0 ∧ K = [] ∧ 0 < nn ∧ nn ≤ 8 ∧ ∀ x ∈ ts, x.S.length < 140737488351233)) (.ok (exit3 bo)) .bad
noncomputable def ls3 : LSpec := lspecOf 0 nrm3 sp3 out3
theorem cfg12_l3 : LpOK cfg12 3 0 l3 := by
  intro p hp ls hls
  exact cfg12_lp 3 _ _ f3_at (by kernel_rfl : Proofs.Tryz.f3.body = some c3) p (by
    have : loopsOf 0 c3 = (0, l3) :: loopsOf 0 l3 := by kernel_rfl
    rw [this]
    exact List.mem_cons_of_mem _ hp) ls hls
theorem ls3_ok : LSpecOK cfg12.P l3 ls3 := by
  refine lspec_ok (fun s => nrmL_ok) ?_
  rintro ⟨ts, bo, nn, ⟨⟩, K, i, ⟨nb, LB, ⟨⟩⟩, ⟨⟩⟩ p hp
  rcases hp with ⟨hc, hp⟩ | ⟨_, hp⟩
  case inr => exact hp.elim
  obtain ⟨rfl, rfl, rfl, rfl, h0, h1, hts⟩ := propB_of hc
  obtain rfl : _ = p := hp
  exact runs_ok cfg12_ok cfg12_lp (fun s => nrmL_ok) cfg12_l3 (fun x => Nat.zero_le _) (runs3 ts bo nb h0 h1 hts 81 0 [] (by omega) (by omega) List.Pairwise.nil (by simp))
noncomputable def cfg13 : Cfg := addL cfg12 3 0 ls3
theorem cfg13_ok : CfgOK cfg13 := addL_ok cfg12_ok
theorem cfg13_lp : LpAll cfg13 := addL_lp cfg12_lp f3_at (by kernel_rfl) ls3_ok
end Go.Eng

set_option linter.unusedVariables false
set_option linter.unusedSimpArgs false
namespace Go.Eng
open Go.RowKit

/-! ### WholeBridge -/

theorem call3 (a : Int) (ts : List TalkS) : callIn cfg13 40 3 [.int .i64 a, .imm (.st .Talk) ts] [] 0 (fun v h _ => some v) =
    ifb (decide (IntKind.i64.wrap (1 + pickF a 8) < 1)) (some (.bool false)) (ifb (decide (IntKind.i64.wrap (1 + pickF a 8) > 8)) (some (.bool false))
      (ifb (propB (IntKind.i64.wrap (1 + pickF a 8) = IntKind.i64.wrap (1 + pickF a 8) ∧ ([] : List LearntS) = [] ∧ (0 : Int) = 0 ∧ ([] : List LearntS) = [] ∧ 0 < IntKind.i64.wrap (1 + pickF a 8) ∧ IntKind.i64.wrap (1 + pickF a 8) ≤ 8 ∧ ∀ x ∈ ts, x.S.length < 140737488351233))
        (some (.bool true)) none)) := by kernel_rfl
theorem bridge_call (a : Int) (ts : List TalkS) (h : ∀ x ∈ ts, x.S.length < 140737488351233) : callIn cfg13 40 3 [.int .i64 a, .imm (.st .Talk) ts] [] 0 (fun v h _ => some v) = some (.bool true) := by
  have hp := pick_range (c := a) (n := 8) (by omega) (by omega)
  have hw : IntKind.i64.wrap (1 + pickF a 8) = 1 + pickF a 8 := wrap_i64 (by omega) (by omega)
  rw [call3, propB_t ⟨rfl, rfl, rfl, rfl, by rw [hw]; omega, by rw [hw]; omega, h⟩, dec_f (by rw [hw]; omega), dec_f (by rw [hw]; omega)]
  rfl
theorem bridge_fun (a : Int) (ts : List TalkS) (h : ∀ x ∈ ts, x.S.length < 140737488351233) : ∃ h' ctr', FunOK cfg13.P 3 [.int .i64 a, .imm (.st .Talk) ts] [] 0 (.bool true) h' ctr' := by
  obtain ⟨v, h', ctr', hk, hf⟩ := callIn_ok cfg13_ok cfg13_lp 40 _ _ _ _ _ _ (bridge_call a ts h)
  obtain rfl : v = .bool true := Option.some.inj hk
  exact ⟨h', ctr', hf⟩
end Go.Eng

set_option linter.unusedVariables false
set_option linter.unusedSimpArgs false
namespace Go.Eng
open Go.ChangeShapes Go.WideShapes Go.Deep Go.RowKit

section
variable {H : Type} {enc : TypeId × Value → H} {P : Program} {w : World} {base : Nat} {spare : Nat → Bool} {held : Bool}
theorem open_slice_fields {t e : TypeId} {fs : Array Field} {fuel : Nat} {cs : List Value} {x : DataW H × List MemPlace} (ht : P.underlying t = some (.slice e)) (he : P.underlying e = some (.struct fs))
    (hone : oneCellFields P fs = true) (hC : P.cellsOf e = fs.size) (h : DataW.trod enc P w base spare held fuel t cs = some x) :
    (cs = [.slice none 0 0] ∧ x = (.nil, [])) ∨
    ∃ (a : Addr) (len cap m : Nat) (D : Nat → DataW H) (Pl : Nat → List MemPlace), cs = [.slice (some a) len cap] ∧ base ≤ a.block ∧ len ≤ cap ∧ cap ≤ maxLen ∧ m = (if spare a.block then cap else len) ∧
      x = (.slice ((List.range len).map D) ((List.range (m - len)).map fun j => D (len + j)), MemPlace.row a (m * fs.size) ++ (List.range m).flatMap Pl) ∧
      ∀ i, i < m → ∃ (ys : List (DataW H × List MemPlace)) (n : Nat), D i = .agg (ys.map (·.1)) ∧ Pl i = ys.flatMap (·.2) ∧ ys.length = fs.size ∧
        ∀ (j : Nat) (f : Field), fs[j]? = some f → ∃ (v : Value) (y : DataW H × List MemPlace), w.cell? (a.add (i * fs.size + j)) = some v ∧ ys[j]? = some y ∧ DataW.trod enc P w base spare held n f.type [v] = some y := by
  rcases open_slice ht h with h0 | ⟨a, len, cap, m, n, D, Pl, hcs, hb, hl, hm, hmm, hx, hi⟩
  · exact .inl h0
  · refine .inr ⟨a, len, cap, m, D, Pl, hcs, hb, hl, hm, hmm, by rw [hC] at hx; exact hx, fun i him => ?_⟩
    obtain ⟨cs', hc, ht'⟩ := hi i him
    rw [hC] at hc
    obtain ⟨ys, n', hn', hy, hlen, hyl, hf⟩ := DataW.trod_struct he ht'
    obtain ⟨_, hcl, hat⟩ := World.cells?_some hc
    simp only [Prod.mk.injEq] at hy
    refine ⟨ys, n', hy.1, hy.2, hyl, fun j f hj => ?_⟩
    obtain ⟨ho, hk⟩ := hone_of hone j f hj
    have hjl : j < fs.size := (Array.getElem?_eq_some_iff.1 hj).1
    have hcell := hat j hjl
    have hv : cs'[j]? = some (cs'[j]'(by omega)) := List.getElem?_eq_getElem (by omega)
    have h1 := hf j f hj
    rw [ho, hk] at h1
    have hone' : (cs'.drop j).take 1 = [cs'[j]'(by omega)] := by
      rw [List.drop_eq_getElem_cons (by omega)]
      rfl
    rw [hone'] at h1
    have hys : ys[j]? = some (ys[j]'(by omega)) := List.getElem?_eq_getElem (by omega)
    refine ⟨_, _, ?_, hys, h1.trans hys⟩
    rw [← Go.Deep.add_add, hcell, hv]
end

theorem weights_all {H : Type} {P : Program} {e : TypeId} : ∀ {l : List (DataW H)} {d : DataW H}, d ∈ l → ∀ n ∈ d.weights P e, n ∈ DataW.weightsAll P e l
  | [], d, h, _, _ => by cases h
  | x :: r, d, h, n, hn => by
    simp only [DataW.weightsAll, List.mem_append]
    rcases List.mem_cons.1 h with rfl | h
    · exact .inl hn
    · exact .inr (weights_all h n hn)

/-- A talk's cells. -/
def talkV (x : TalkS) : Nat → Value
  | 0 => .int .i64 x.What
  | 1 => .int .i64 x.A
  | 2 => .int .i64 x.B
  | 3 => .int .i64 x.C
  | _ => .string ⟨x.S.toArray⟩
theorem talk_VR {w : World} {G : Gh} {Z : Nat → Prop} (x : TalkS) : ∀ j, j < csz (.st .Talk) → VR w G Z (getT (enc (.st .Talk) x) j) (talkV x j) := by
  intro j hj
  have hj : j < 5 := hj
  rcases j with _ | _ | _ | _ | _ | j
  · exact .int _ _ rfl
  · exact .int _ _ rfl
  · exact .int _ _ rfl
  · exact .int _ _ rfl
  · exact .str _
  · omega
section
variable {H : Type} {enc' : TypeId × Value → H} {W : World}
set_option maxRecDepth 100000 in
theorem talks_open {v : Value} {d : DataW H} {ps : List MemPlace} {base : Nat} (hv : Value.okWide Proofs.Tryz.prog W .any base 22 v) (h : DataW.Trod enc' Proofs.Tryz.prog W 0 (fun _ => true) true 22 v d ps)
    (hz : ∀ n ∈ d.weights Proofs.Tryz.prog 22, n ≤ reachBytes) :
    ∃ (ts : List TalkS) (Z : Nat → Prop), (∀ x ∈ ts, x.S.length < 140737488351233) ∧ (∀ b, Z b → b < W.heap.size) ∧ VR W (fun _ => none) Z (.imm (.st .Talk) ts) v := by
  obtain ⟨a, len, cap, rfl⟩ := okWide_slice Proofs.Tryz.underlying22 hv
  obtain ⟨fuel, hf⟩ := h
  rcases open_slice_fields Proofs.Tryz.underlying22 Proofs.Tryz.underlying32 (by kernel_rfl) (by kernel_rfl) hf with ⟨hcs, _⟩ | ⟨a', len', cap', m, D, Pl, hcs, hb, hl, hm, hmm, hx, hi⟩
  · simp only [Value.cells] at hcs
    simp at hcs
    obtain ⟨rfl, rfl, rfl⟩ := hcs
    exact ⟨[], fun _ => False, fun x hx => (by cases hx), fun b hb => hb.elim, .imm0 _ none 0⟩
  · simp only [Value.cells] at hcs
    simp at hcs
    obtain ⟨rfl, rfl, rfl⟩ := hcs
    simp only [if_true] at hmm
    subst hmm
    have key : ∀ i, ∃ x : TalkS, i < len → x.S.length < 140737488351233 ∧ ∀ j, j < 5 → W.cell? (a'.add (i * 5 + j)) = some (talkV x j) := by
      intro i
      by_cases hil : i < len
      · obtain ⟨ys, n, hD, hPl, hys, hfld⟩ := hi i (by omega)
        obtain ⟨v0, y0, c0, g0, t0⟩ := hfld 0 _ rfl
        obtain ⟨v1, y1, c1, g1, t1⟩ := hfld 1 _ rfl
        obtain ⟨v2, y2, c2, g2, t2⟩ := hfld 2 _ rfl
        obtain ⟨v3, y3, c3, g3, t3⟩ := hfld 3 _ rfl
        obtain ⟨v4, y4, c4, g4, t4⟩ := hfld 4 _ rfl
        obtain ⟨n0, e0, _, _⟩ := DataW.trod_int Proofs.Tryz.underlying3 t0
        obtain ⟨n1, e1, _, _⟩ := DataW.trod_int Proofs.Tryz.underlying3 t1
        obtain ⟨n2, e2, _, _⟩ := DataW.trod_int Proofs.Tryz.underlying3 t2
        obtain ⟨n3, e3, _, _⟩ := DataW.trod_int Proofs.Tryz.underlying3 t3
        obtain ⟨s, e4, r4, _⟩ := DataW.trod_string Proofs.Tryz.underlying9 t4
        cases e0; cases e1; cases e2; cases e3; cases e4
        refine ⟨⟨n0, n1, n2, n3, s.data.toList⟩, fun _ => ⟨?_, ?_⟩⟩
        · have hw : s.data.toList.length ≤ reachBytes := by
            refine hz _ ?_
            have hd : d = .slice ((List.range len).map D) ((List.range (m - len)).map fun j => D (len + j)) := (congrArg Prod.fst hx)
            rw [hd]
            simp only [DataW.weights, Proofs.Tryz.underlying22]
            refine List.mem_cons_of_mem _ (List.mem_append_left _ (weights_all (List.mem_map.2 ⟨i, List.mem_range.2 hil, rfl⟩) _ ?_))
            rw [hD]
            simp only [DataW.weights, Proofs.Tryz.underlying32]
            refine DataW.weights_mem_each (j := 4) (t := 9) (d := .lit (.string s.data.toList)) rfl ?_ _ (by simp [DataW.weights])
            rw [List.getElem?_map, g4, r4]
            rfl
          have : reachBytes = 140737488351232 := by decide
          simp only at hw ⊢
          omega
        · intro j hj
          rcases j with _ | _ | _ | _ | _ | j
          · exact c0
          · exact c1
          · exact c2
          · exact c3
          · exact c4
          · omega
      · exact ⟨dflt (.st .Talk), fun h => absurd h hil⟩
    let T : Nat → TalkS := fun i => Classical.choose (key i)
    have hT : ∀ i, i < len → (T i).S.length < 140737488351233 ∧ ∀ j, j < 5 → W.cell? (a'.add (i * 5 + j)) = some (talkV (T i) j) := fun i hi => Classical.choose_spec (key i) hi
    by_cases h0 : len = 0
    · subst h0
      exact ⟨[], fun _ => False, fun x hx => (by cases hx), fun b hb => hb.elim, .imm0 _ _ _⟩
    · obtain ⟨blk, off, spot⟩ := a'
      have hc0 := (hT 0 (by omega)).2 0 (by omega)
      have hsp : spot = none := by
        have e : (⟨blk, off, spot⟩ : Addr).add (0 * 5 + 0) = ⟨blk, off, spot⟩ := rfl
        rw [e] at hc0
        unfold World.cell? at hc0
        split at hc0
        · split at hc0
          · cases hc0
          · rename_i hs
            cases spot with
            | none => rfl
            | some _ => exact absurd rfl hs
        · cases hc0
      subst hsp
      have hlen : ((List.range len).map T).length = len := by simp
      have hget : ∀ i, i < len → ((List.range len).map T).getD i (dflt (.st .Talk)) = T i := by
        intro i hil
        simp [List.getD, hil]
      refine ⟨(List.range len).map T, fun b => b = blk, ?_, ?_, ?_⟩
      · intro x hx
        obtain ⟨i, hi', rfl⟩ := List.mem_map.1 hx
        exact (hT i (List.mem_range.1 hi')).1
      · rintro b rfl
        have := lt_of_cell hc0
        simpa [Addr.add] using this
      · have := VR.imm (w := W) (G := fun _ => none) (Z := fun b => b = blk) (.st .Talk) ((List.range len).map T) blk off m (fun i j => talkV (T i) j) rfl (by rw [hlen]; exact hl) (by
          intro i hil j hj
          rw [hlen] at hil
          have := (hT i hil).2 j hj
          rw [← this, ← add_ad]
          congr 1
          show _ = Addr.add (ad blk off) (i * 5 + j)
          rw [add_ad, add_ad, Nat.add_assoc]
          rfl) (by
          intro i hil j hj
          rw [hlen] at hil
          rw [hget i hil]
          exact talk_VR (T i) j hj)
        rw [hlen] at this
        exact this
end
end Go.Eng
