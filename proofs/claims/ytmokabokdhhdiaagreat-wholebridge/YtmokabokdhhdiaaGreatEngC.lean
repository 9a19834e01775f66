/- A part of the evaluator of the program and of its proof: texts E9, E10, E11, E12, E13. -/
import Derived.Test.YtmokabokdhhdiaaGreatEngB
set_option linter.unusedVariables false
set_option linter.unusedSimpArgs false
namespace Go.Eng
open Go.RowKit

variable {P : Program} {w : World} {G : Gh} {Z : Nat → Prop} {tc : Nat → Cd}

theorem add_ad (b o n : Nat) : (ad b o).add n = ad b (o + n) := by
  unfold Addr.add; split <;> simp_all
theorem fldOf_some {t : TypeId} {f : Nat} {fd : Field} (h : fldOf P t f = some fd) : ∃ fs, P.underlying t = some (.struct fs) ∧ fs[f]? = some fd := by
  unfold fldOf at h
  split at h
  · exact ⟨_, by assumption, h⟩
  · cases h

theorem run_fieldAt {t : TypeId} {f : Nat} {fd : Field} (h : fldOf P t f = some fd) (h0 : P.cellsOf fd.type ≠ 0) (b o : Nat) :
    (Instr.fieldAt t (.pointer (some (ad b o))) f).run P w = .ok (.pointer (some (ad b (o + fd.offset)))) w := by
  obtain ⟨fs, hu, hf⟩ := fldOf_some h
  simp [Instr.fieldAt, run_und hu, hf, Instr.sureAddr, fieldPlace, run_sz h0, h0, add_ad]

theorem opFieldAddr_ok {t : TypeId} {f : Nat} {a v : AV} {u : Value} (h : opFieldAddr P t a f = some (true, v)) (ha : VR w G Z a u) : RT P w G Z (Instr.fieldAt t u f) v := by
  unfold opFieldAddr at h
  split at h
  · rename_i fd hfd
    split at h
    · cases h
    · rename_i h0
      have h0' : P.cellsOf fd.type ≠ 0 := by intro e; rw [e] at h0; exact absurd h0 (by decide)
      split at h
      · cases ha with
        | ptr _ _ ni b o g1 g2 =>
        cases h
        exact ⟨_, run_fieldAt hfd h0' b _, by rw [Nat.add_assoc]; exact .ptr _ _ ni b o g1 g2⟩
      · cases ha with
        | eptr _ _ _ ni b o g1 g2 g3 =>
        cases h
        exact ⟨_, run_fieldAt hfd h0' b _, by rw [Nat.add_assoc]; exact .eptr _ _ _ ni b o g1 g2 g3⟩
      · cases ha with
        | iptr _ _ _ b o vs g1 g2 g3 =>
        cases h
        exact ⟨_, run_fieldAt hfd h0' b _, by rw [Nat.add_assoc]; exact .iptr _ _ _ b o vs g1 g2 g3⟩
      · cases h
  · cases h

theorem opField_ok {t : TypeId} {f : Nat} {a v : AV} {u : Value} (h : opField P t a f = some (true, v)) (ha : VR w G Z a u) : RT P w G Z (Instr.field t u f) v := by
  unfold opField at h
  split at h
  · rename_i fd cs hfd
    split at h
    · rename_i hle0
      have hle : Nat.ble (fd.offset + P.cellsOf fd.type) cs.length = true := by
        cases h1 : Nat.ble (fd.offset + P.cellsOf fd.type) cs.length with
        | true => rfl
        | false => simp [h1] at hle0
      have hd : ∃ d, P.underlying fd.type = some d := by
        cases h1 : P.underlying fd.type with
        | some d => exact ⟨d, rfl⟩
        | none => simp [h1, isSome] at hle0
      split at h
      · rename_i v' hp
        cases h
        cases ha with
        | agg _ vs h1 h2 h3 =>
        obtain ⟨fs, hu, hf⟩ := fldOf_some hfd
        obtain ⟨d, hd⟩ := hd
        have hpart : part? P fd.type cs fd.offset = some v := by
          unfold part?
          unfold pack at hp
          cases hag : isAgg? P fd.type with
          | true => rw [hag] at hp; simp only [hle]; exact hp
          | false =>
            rw [hag] at hp
            simp only at hp ⊢
            split at hp
            · rename_i x hx
              obtain rfl := Option.some.inj hp
              have hlen := congrArg List.length hx
              simp at hlen hle
              have hlt : fd.offset < cs.length := by omega
              have hget := congrArg (fun l => getT l 0) hx
              simp only [getT] at hget
              rw [getT_getElem?, List.getElem?_take, if_pos (by omega), List.getElem?_drop] at hget
              have : Nat.blt fd.offset cs.length = true := by simp [Nat.blt, Nat.ble_eq]; omega
              rw [this]
              simp only
              rw [getT_getElem?, ← hget]; simp
            · cases hp
        obtain ⟨u, hu', hvu⟩ := part_ok hd hpart (VR.agg (w := w) (G := G) (Z := Z) cs vs h1 h2 h3)
        exact ⟨u, by simp [Instr.field, run_und hu, hf, asAgg, hu'], hvu⟩
      · cases h
    · cases h
  · cases h

theorem inB_iff {i : Int} {n : Nat} : inB i n = true ↔ 0 ≤ i ∧ i < n := by simp [inB]

theorem run_idx_slice {t e : TypeId} (hu : P.underlying t = some (.slice e)) {b o n c : Nat} {k : IntKind} {i : Int} (h : 0 ≤ i ∧ i < n) (h0 : ∃ d, P.info? e = some d) :
    (Instr.indexAt t (.slice (some (ad b o)) n c) (.int k i)).run P w = .ok (.pointer (some (ad b (o + i.toNat * P.cellsOf e)))) w := by
  obtain ⟨d, hd⟩ := h0
  simp [Instr.indexAt, asIntOf, run_und hu, h, run_sz' hd, add_ad]
theorem run_idx_arr {t e : TypeId} {n : Nat} (hu : P.underlying t = some (.array n e)) {b o : Nat} {k : IntKind} {i : Int} (h : 0 ≤ i ∧ i < n) (h0 : ∃ d, P.info? e = some d) :
    (Instr.indexAt t (.pointer (some (ad b o))) (.int k i)).run P w = .ok (.pointer (some (ad b (o + i.toNat * P.cellsOf e)))) w := by
  obtain ⟨d, hd⟩ := h0
  simp [Instr.indexAt, asIntOf, run_und hu, h, run_sz' hd, add_ad, Instr.sureAddr]

theorem info_of_cells {e : TypeId} {n : Nat} (h : P.cellsOf e = n) (h0 : n ≠ 0) : ∃ d, P.info? e = some d := by
  cases hi : P.info? e with
  | none => simp [Program.cellsOf, hi] at h; exact absurd h.symm h0
  | some d => exact ⟨d, rfl⟩
theorem lvs_pos (s : SN) : (lvs s).length ≠ 0 := by cases s <;> decide
theorem csz_pos (c : Cd) : csz c ≠ 0 := by cases c <;> first | exact lvs_pos _ | (simp [csz])

theorem opIndexAddr_ok {t : TypeId} {a i v : AV} {u u' : Value} (h : opIndexAddr P t a i = some (true, v)) (ha : VR w G Z a u) (hi : VR w G Z i u') : RT P w G Z (Instr.indexAt t u u') v := by
  unfold opIndexAddr at h
  split at h
  · rename_i k i
    cases hi
    split at h
    · rename_i n e nm off hu
      split at h
      · rename_i h0
        cases ha with
        | ptr _ _ ni b o g1 g2 =>
        simp only [Option.some.injEq, Prod.mk.injEq] at h
        obtain ⟨hb, rfl⟩ := h
        refine ⟨_, run_idx_arr hu (inB_iff.1 hb) (info_of_cells rfl fun e => by rw [e] at h0; exact absurd h0 (by decide)), ?_⟩
        rw [Nat.add_assoc]; exact .ptr _ _ ni b o g1 g2
      · cases h
    · rename_i e c l hu
      split at h
      · rename_i hsz
        have hsz' : P.cellsOf e = csz c := by simpa using hsz
        simp only [Option.some.injEq, Prod.mk.injEq] at h
        obtain ⟨hb, rfl⟩ := h
        have hb' := inB_iff.1 hb
        cases ha with
        | imm _ _ b o cap vs g1 g2 g3 g4 =>
          refine ⟨_, run_idx_slice hu hb' (info_of_cells hsz' (csz_pos c)), ?_⟩
          rw [hsz']
          have := VR.iptr (w := w) (G := G) (Z := Z) c (l.getD i.toNat (dflt c)) 0 b (o + i.toNat * csz c) (vs i.toNat) g1 (fun j hj => g3 _ (by omega) j hj) (fun j hj => g4 _ (by omega) j hj)
          simpa using this
        | imm0 _ _ _ => simp at hb'; omega
      · cases h
    · rename_i e c l hu
      split at h
      · rename_i hsz
        have hsz' : P.cellsOf e = csz c := by simpa using hsz
        simp only [Option.some.injEq, Prod.mk.injEq] at h
        obtain ⟨hb, rfl⟩ := h
        have hb' := inB_iff.1 hb
        cases ha with
        | clip _ _ b o vs g1 g3 g4 =>
          refine ⟨_, run_idx_slice hu hb' (info_of_cells hsz' (csz_pos c)), ?_⟩
          rw [hsz']
          have := VR.iptr (w := w) (G := G) (Z := Z) c (l.getD i.toNat (dflt c)) 0 b (o + i.toNat * csz c) (vs i.toNat) g1 (fun j hj => g3 _ (by omega) j hj) (fun j hj => g4 _ (by omega) j hj)
          simpa using this
        | clip0 _ _ => simp at hb'; omega
      · cases h
    · rename_i e nm c off len tl hu
      split at h
      · rename_i hsz
        have hsz' : P.cellsOf e = csz c := by simpa using hsz
        simp only [Option.some.injEq, Prod.mk.injEq] at h
        obtain ⟨hb, rfl⟩ := h
        have hb' := inB_iff.1 hb
        cases ha with
        | own _ _ _ _ _ ni b o cap e' S g1 g2 g3 g4 g5 g6 g7 g8 =>
          refine ⟨_, run_idx_slice hu hb' (info_of_cells hsz' (csz_pos c)), ?_⟩
          rw [hsz']
          have := VR.eptr (w := w) (Z := Z) nm (off + i.toNat) 0 ni b o g1 g2 (by omega)
          rw [g3] at this
          have e : o + off * csz c + i.toNat * csz c = o + (off + i.toNat) * csz c + 0 := by rw [Nat.add_mul]; omega
          rw [e]; exact this
        | own0 _ _ _ _ _ _ _ _ _ => omega
      · cases h
    · rename_i e nm c off len hu
      split at h
      · rename_i hsz
        have hsz' : P.cellsOf e = csz c := by simpa using hsz
        simp only [Option.some.injEq, Prod.mk.injEq] at h
        obtain ⟨hb, rfl⟩ := h
        have hb' := inB_iff.1 hb
        cases ha with
        | xown _ _ _ _ ni b o cap g1 g2 g3 =>
          refine ⟨_, run_idx_slice hu hb' (info_of_cells hsz' (csz_pos c)), ?_⟩
          rw [hsz']
          have := VR.ptr (w := w) (Z := Z) nm ((off + i.toNat) * csz c) ni b o g1 g2
          have e : o + off * csz c + i.toNat * csz c = o + (off + i.toNat) * csz c := by rw [Nat.add_mul]; omega
          rw [e]; exact this
        | xown0 _ _ _ _ => omega
      · cases h
    · cases h
  · cases h

theorem opIndex_ok {t : TypeId} {a i v : AV} {u u' : Value} (h : opIndex P t a i = some (true, v)) (ha : VR w G Z a u) (hi : VR w G Z i u') : RT P w G Z (Instr.index t u u') v := by
  unfold opIndex at h
  split at h
  · rename_i k i
    cases hi
    split at h
    · rename_i l hu
      cases ha
      simp only [Option.some.injEq, Prod.mk.injEq] at h
      obtain ⟨hb, rfl⟩ := h
      have hb' := inB_iff.1 hb
      have hlt : i.toNat < l.length := by omega
      refine ⟨.int .u8 ((l.getD i.toNat 0).toNat : Int), ?_, .int _ _ ?_⟩
      · have e : ((⟨l.toArray⟩ : ByteArray)[i.toNat]?) = some (l.getD i.toNat 0) := by
          have hs : i.toNat < ByteArray.size ⟨l.toArray⟩ := by show i.toNat < l.toArray.size; simpa using hlt
          rw [getElem?_pos (c := (⟨l.toArray⟩ : ByteArray)) (i := i.toNat) (h := hs)]
          simp only [List.getD, List.getElem?_eq_getElem hlt, Option.getD_some, Option.some.injEq]
          rfl
        simp [Instr.index, asIntOf, run_und hu, hb'.1, e]
      · rw [inR_u8]
        have := (l.getD i.toNat 0).toNat_lt
        omega
    · cases h
  · cases h

theorem opLen_ok {t : TypeId} {a v : AV} {u : Value} (h : opLen P t a = some (true, v)) (ha : VR w G Z a u) (ty : TypeId) : RT P w G Z (Builtin.len_ #[t] ty #[u]) v := by
  unfold opLen at h
  split at h
  · rename_i n e hu
    cases h
    exact ⟨_, by simp [Builtin.len_, run_und hu, goInt], .int _ _ rfl⟩
  · rename_i e hu
    split at h
    · rename_i n e' hu'
      cases h
      exact ⟨_, by simp [Builtin.len_, run_und hu, run_und hu', goInt], .int _ _ rfl⟩
    · cases h
  · rename_i hu
    split at h
    · cases ha; cases h
      refine ⟨.int .i64 _, ?_, .int _ _ rfl⟩
      simp only [Builtin.len_]
      simp [run_und hu]
      rfl
    · cases h
  · rename_i e hu
    split at h <;> first | cases h | skip
    all_goals
      cases ha <;> exact ⟨_, by simp [Builtin.len_, run_und hu, goInt], .int _ _ rfl⟩
  · cases h
end Go.Eng

set_option linter.unusedVariables false
set_option linter.unusedSimpArgs false
namespace Go.Eng
open Go.RowKit

variable {P : Program} {w : World} {G : Gh} {Z : Nat → Prop} {tc : Nat → Cd}

/-! ### Cells of a value -/

theorem cells_ok {x : AV} {u : Value} (hb : boxable x = true) (h : VR w G Z x u) :
    (cells x).length = u.cells.size ∧ (∀ j, j < (cells x).length → VR w G Z (getT (cells x) j) (u.cells.getD j undef)) ∧ (∀ j, j < (cells x).length → (u.cells.getD j undef).oneCell' = true) := by
  cases h with
  | agg cs vs h1 h2 h3 => exact ⟨h1, h2, h3⟩
  | top v => cases hb
  | known v => cases hb
  | tup cs vs h1 h2 => cases hb
  | _ =>
    refine ⟨rfl, fun j hj => ?_, fun j hj => ?_⟩
    all_goals
      simp only [cells, List.length_cons, List.length_nil] at hj
      obtain rfl : j = 0 := by omega
    · simp only [cells, getT, Value.cells]
      first
        | exact .bool _ | exact .int _ _ (by assumption) | exact .str _ | exact .nilp | exact .ptr _ _ _ _ _ (by assumption) (by assumption)
        | exact .eptr _ _ _ _ _ _ (by assumption) (by assumption) (by assumption)
        | exact .iptr _ _ _ _ _ _ (by assumption) (by assumption) (by assumption)
        | exact .nils | exact .cap0 _ _ | exact .imm _ _ _ _ _ _ (by assumption) (by assumption) (by assumption) (by assumption)
        | exact .imm0 _ _ _ | exact .clip _ _ _ _ _ (by assumption) (by assumption) (by assumption) | exact .clip0 _ _
        | exact .own _ _ _ _ _ _ _ _ _ _ _ (by assumption) (by assumption) (by assumption) (by assumption) (by assumption) (by assumption) (by assumption) (by assumption)
        | exact .own0 _ _ _ _ _ _ (by assumption) (by assumption) (by assumption) (by assumption)
        | exact .xown _ _ _ _ _ _ _ _ (by assumption) (by assumption) (by assumption) | exact .xown0 _ _ _ _
        | exact .fn _ _ _ (by assumption) (by assumption) | exact .nilf | exact .iface _ _ _ (by assumption) | exact .nili
    · rfl

structure CL (w : World) (G : Gh) (Z : Nat → Prop) (cs : List AV) (vs : Array Value) : Prop where
  len : cs.length = vs.size
  vr : ∀ j, j < cs.length → VR w G Z (getT cs j) (vs.getD j undef)
  one : ∀ j, j < cs.length → (vs.getD j undef).oneCell' = true

theorem getT_append (a b : List AV) (j : Nat) : getT (a ++ b) j = if j < a.length then getT a j else getT b (j - a.length) := by
  rw [getT_getElem?, List.getElem?_append]
  split <;> rw [getT_getElem?]
theorem getT_take (a : List AV) (n j : Nat) : getT (a.take n) j = if j < n then getT a j else .top := by
  rw [getT_getElem?, List.getElem?_take]
  split
  · rw [getT_getElem?]
  · rfl
theorem getT_drop (a : List AV) (n j : Nat) : getT (a.drop n) j = getT a (n + j) := by
  rw [getT_getElem?, List.getElem?_drop, getT_getElem?]

theorem foldl_put (off : Nat) : ∀ (l : List Value) (k : Nat) (cs : Array Value), 
    (l.zipIdx k).foldl (fun (cs : Array Value) (x : Value × Nat) => cs.setIfInBounds (off + x.2) x.1) cs = 
    (l.zipIdx k).foldl (fun (cs : Array Value) (x : Value × Nat) => cs.setIfInBounds (off + x.2) x.1) cs := fun _ _ _ => rfl
theorem foldl_set (off : Nat) : ∀ (l : List Value) (k : Nat) (cs : Array Value), (∀ j, ((l.zipIdx k).foldl (fun (cs : Array Value) (x : Value × Nat) => cs.setIfInBounds (off + x.2) x.1) cs)[j]? =
      if off + k ≤ j ∧ j < off + k + l.length ∧ j < cs.size then some (l.getD (j - off - k) undef) else cs[j]?) ∧
      ((l.zipIdx k).foldl (fun (cs : Array Value) (x : Value × Nat) => cs.setIfInBounds (off + x.2) x.1) cs).size = cs.size
  | [], k, cs => by
    refine ⟨fun j => ?_, by simp⟩
    simp only [List.zipIdx_nil, List.foldl_nil, List.length_nil]
    rw [if_neg (by omega)]
  | v :: r, k, cs => by
    have ih := foldl_set off r (k + 1) (cs.setIfInBounds (off + k) v)
    simp only [List.zipIdx_cons, List.foldl_cons]
    refine ⟨fun j => ?_, by rw [ih.2]; simp⟩
    rw [ih.1 j]
    simp only [Array.size_setIfInBounds, List.length_cons]
    by_cases h1 : off + (k + 1) ≤ j ∧ j < off + (k + 1) + r.length ∧ j < cs.size
    · rw [if_pos h1, if_pos (by omega)]
      congr 1
      have : j - off - k = (j - off - (k + 1)) + 1 := by omega
      rw [this]; rfl
    · rw [if_neg h1, Array.getElem?_setIfInBounds]
      by_cases h2 : off + k = j
      · subst h2
        by_cases h3 : off + k < cs.size
        · rw [if_pos rfl, if_pos h3, if_pos (by omega)]; simp
        · rw [if_pos rfl, if_neg h3, if_neg (by omega), Array.getElem?_eq_none (by omega)]
      · rw [if_neg h2, if_neg (by omega)]

theorem getD_of_some {vs : Array Value} {j : Nat} {v : Value} (h : vs[j]? = some v) : vs.getD j undef = v := by
  rw [Array.getD_eq_getD_getElem?, h]; rfl

/-- One part written over. -/
theorem CL.over {cs new : List AV} {vs u : Array Value} (h : CL w G Z cs vs) (hn : CL w G Z new u) {off : Nat} (hle : off + new.length ≤ cs.length) :
    CL w G Z (cs.take off ++ (new ++ cs.drop (off + new.length))) (u.zipIdx.foldl (fun (cs : Array Value) (x : Value × Nat) => cs.setIfInBounds (off + x.2) x.1) vs) := by
  have hz : u.zipIdx.foldl (fun (cs : Array Value) (x : Value × Nat) => cs.setIfInBounds (off + x.2) x.1) vs = (u.toList.zipIdx 0).foldl (fun (cs : Array Value) (x : Value × Nat) => cs.setIfInBounds (off + x.2) x.1) vs := by
    rw [← Array.foldl_toList, Array.toList_zipIdx]
  have hf := foldl_set off u.toList 0 vs
  have hul : u.toList.length = new.length := by rw [hn.len]; simp
  have hlen : (cs.take off ++ (new ++ cs.drop (off + new.length))).length = cs.length := by simp; omega
  have hl := h.len
  rw [hz]
  refine ⟨by rw [hlen, hf.2, h.len], ?_, ?_⟩
  all_goals
    intro j hj
    rw [hlen] at hj
    have hfj := hf.1 j
    by_cases h1 : off ≤ j ∧ j < off + new.length
    · rw [if_pos (by omega)] at hfj
      rw [getD_of_some hfj]
      have e1 : u.toList.getD (j - off - 0) undef = u.getD (j - off) undef := by
        simp [List.getD, Array.getD_eq_getD_getElem?]
      rw [e1]
      first
        | (rw [getT_append, if_neg (by simp; omega), getT_append]
           have e2 : j - (cs.take off).length = j - off := by simp; omega
           rw [e2, if_pos (by omega)]
           exact hn.vr _ (by omega))
        | exact hn.one _ (by omega)
    · rw [if_neg (by omega)] at hfj
      have e1 : Array.getD (List.foldl (fun (cs : Array Value) (x : Value × Nat) => cs.setIfInBounds (off + x.2) x.1) vs (u.toList.zipIdx 0)) j undef = vs.getD j undef := by
        rw [Array.getD_eq_getD_getElem?, hfj, ← Array.getD_eq_getD_getElem?]
      rw [e1]
      first
        | (have e2 : getT (cs.take off ++ (new ++ cs.drop (off + new.length))) j = getT cs j := by
             rw [getT_append, getT_append, getT_take, getT_drop]
             have e3 : (cs.take off).length = off := by simp; omega
             rw [e3]
             by_cases h2 : j < off
             · rw [if_pos h2, if_pos h2]
             · rw [if_neg h2, if_neg (by omega)]
               congr 1
               omega
           rw [e2]
           exact h.vr _ hj)
        | exact h.one _ hj

theorem fill_ok {pl : Nat → Option (Nat × Nat)} : ∀ (vs : List (Nat × AV)) (us : List (Nat × Value)) (cs cs' : List AV) (a : Array Value), fillP P vs pl cs = some cs' → CL w G Z cs a →
    vs.length = us.length → (∀ i, i < vs.length → ∃ n x u, vs[i]? = some (n, x) ∧ us[i]? = some (n, u) ∧ VR w G Z x u) → ∃ a', Instr.fill pl a us = some a' ∧ CL w G Z cs' a'
  | [], [], cs, cs', a, h, hc, _, _ => by cases h; exact ⟨a, rfl, hc⟩
  | [], _ :: _, _, _, _, _, _, hl, _ => by simp at hl
  | _ :: _, [], _, _, _, _, _, hl, _ => by simp at hl
  | (i, x) :: r, (i', u) :: ru, cs, cs', a, h, hc, hl, hr => by
    obtain ⟨n, x', u', e1, e2, hv⟩ := hr 0 (by simp)
    simp at e1 e2
    obtain ⟨rfl, rfl⟩ := e1
    obtain ⟨rfl, rfl⟩ := e2
    simp only [fillP] at h
    split at h
    · cases h
    · rename_i off m hpl
      split at h
      · rename_i hcond
        simp only [Bool.and_eq_true] at hcond
        obtain ⟨hb, hs, hle⟩ := hcond
        have hs' : (cells x).length = m := by simpa using hs
        have hle' : off + m ≤ cs.length := by simpa using hle
        have hcl := cells_ok hb hv
        subst hs'
        have hov := hc.over (new := cells x) (u := u.cells) ⟨hcl.1, hcl.2.1, hcl.2.2⟩ hle'
        have hlen := hc.len
        simp only [Instr.fill, hpl]
        rw [if_neg (by rw [← hcl.1]; simp; omega)]
        exact fill_ok r ru _ _ _ h hov (by simpa using hl) (fun j hj => by
          have := hr (j + 1) (by simp; omega)
          simpa using this)
      · cases h

theorem ofVal_one {v : Value} (h : boxable (ofVal v) = true) : v.oneCell' = true := by
  cases v <;> first | rfl | (simp [ofVal, boxable] at h)
theorem allBox_at : ∀ (l : List AV) (j : Nat), allBox l = true → j < l.length → boxable (getT l j) = true
  | [], _, _, h => by simp at h
  | v :: r, 0, h, _ => by
    simp only [allBox] at h
    split at h
    · assumption
    · cases h
  | v :: r, j + 1, h, hj => by
    simp only [allBox] at h
    split at h
    · exact allBox_at r j h (by simpa using hj)
    · cases h
theorem zero_CL (vs : Array Value) (h : allBox (vs.toList.map ofVal) = true) : CL w G Z (vs.toList.map ofVal) vs := by
  refine ⟨by simp, fun j hj => ?_, fun j hj => ?_⟩
  all_goals
    have hj' : j < vs.size := by simpa using hj
    have e : getT (vs.toList.map ofVal) j = ofVal (vs.getD j undef) := by
      rw [getT_getElem?]
      simp [hj', Array.getD]
  · rw [e]; exact ofVal_ok _
  · have := allBox_at _ j h hj
    rw [e] at this
    exact ofVal_one this
theorem zeroCs_ok {t : TypeId} {z : List AV} (h : zeroCs P t = some z) : ∃ v i, P.info? t = some i ∧ i.zero = some v ∧ (∀ w, (zeroValue t).run P w = .ok v w) ∧ z = v.cells.toList.map ofVal ∧ (∀ w G Z, CL w G Z z v.cells) := by
  unfold zeroCs at h
  split at h
  · rename_i i hi
    split at h
    · rename_i v hv
      split at h
      · rename_i hb
        obtain rfl := Option.some.inj h
        exact ⟨v, i, hi, hv, fun w => by simp [zeroValue, typeInfo, hi, hv], rfl, fun w G Z => zero_CL v.cells hb⟩
      · cases h
    · cases h
  · cases h

theorem isSome_ex {α : Type} {x : Option α} (h : isSome x = true) : ∃ a, x = some a := by
  cases x with
  | none => cases h
  | some a => exact ⟨a, rfl⟩

theorem mapM_places {P : Program} {w : World} : ∀ (fs : List Field), fs.all (fun f => isSome (P.info? f.type)) = true →
    (fs.mapM fun f => (do pure (f.offset, ← sizeOf f.type) : Sem (Nat × Nat))).run P w = .ok (fs.map fun f => (f.offset, P.cellsOf f.type)) w
  | [], _ => by simp
  | f :: fs, h => by
    simp only [List.all_cons, Bool.and_eq_true] at h
    obtain ⟨i, hi⟩ := isSome_ex h.1
    have ih := mapM_places (w := w) (P := P) fs h.2
    rw [List.mapM_cons]
    simp only [Sem.run_bind, run_sz' hi, Result.andThen_ok, Sem.run_pure, ih, List.map_cons]

theorem CL.agg {cs : List AV} {vs : Array Value} (h : CL w G Z cs vs) : VR w G Z (.agg cs) (.agg vs) := .agg cs vs h.len h.vr h.one

theorem parts_rel {tm : List AV} {a : Act} (ht : TR w G Z tm a.tmps) (ps : List (Nat × Operand)) (i : Nat) (hi : i < (ps.map fun p => (p.1, ev1 tm p.2)).length) :
    ∃ n x u, (ps.map fun p => (p.1, ev1 tm p.2))[i]? = some (n, x) ∧ (ps.map fun p => (p.1, a.eval p.2))[i]? = some (n, u) ∧ VR w G Z x u := by
  have hi' : i < ps.length := by simpa using hi
  exact ⟨ps[i].1, _, _, by simp [hi'], by simp [hi'], ev1_ok ht ps[i].2⟩

theorem opBuild_ok {tm : List AV} {a : Act} {t : TypeId} {ps : Array (Nat × Operand)} {v : AV} (h : opBuild P tm t ps.toList = some (true, v)) (ht : TR w G Z tm a.tmps) :
    RT P w G Z (Instr.build t (ps.map fun (i, x) => (i, a.eval x))) v := by
  unfold opBuild at h
  split at h
  · cases h
  · rename_i z hz
    obtain ⟨zv, _, _, _, hrun, rfl, hcl⟩ := zeroCs_ok hz
    have hps : (ps.map fun (x : Nat × Operand) => match x with | (i, x) => (i, a.eval x)).toList = ps.toList.map fun p => (p.1, a.eval p.2) := by simp
    simp only at h
    split at h
    · rename_i fs hu
      split at h
      · rename_i cs hall hf
        cases h
        obtain ⟨a', ha', hcl'⟩ := fill_ok (w := w) (G := G) (Z := Z) _ (ps.toList.map fun p => (p.1, a.eval p.2)) _ _ _ hf (hcl w G Z) (by simp) (fun i hi => parts_rel ht ps.toList i hi)
        refine ⟨.agg a', ?_, hcl'.agg⟩
        have hm := mapM_places (P := P) (w := w) fs.toList hall
        have hm' : (fs.mapM fun f => (do pure (f.offset, ← sizeOf f.type) : Sem (Nat × Nat))).run P w = .ok (fs.map fun f => (f.offset, P.cellsOf f.type)) w := by
          rw [Array.mapM_eq_mapM_toList]
          simp only [Sem.run_map, hm, Result.andThen_ok]
          congr 1
          apply Array.ext'
          simp
        have hpl : (fun i => (fs.map fun (f : Field) => (f.offset, P.cellsOf f.type))[i]?) = (fun (i : Nat) => match fs.toList[i]? with | some f => some (f.offset, P.cellsOf f.type) | none => none) := by
          funext i
          rw [Array.getElem?_map, ← Array.getElem?_toList]
          cases fs.toList[i]? <;> rfl
        simp only [Instr.build, Sem.run_bind, hrun, Result.andThen_ok, run_und hu, hm', hps, hpl]
        erw [ha']
        rfl
      · cases h
    · rename_i n e hu
      split at h
      · rename_i cs hi hf
        cases h
        obtain ⟨i, hi⟩ := isSome_ex hi
        obtain ⟨a', ha', hcl'⟩ := fill_ok (w := w) (G := G) (Z := Z) _ (ps.toList.map fun p => (p.1, a.eval p.2)) _ _ _ hf (hcl w G Z) (by simp) (fun i hi => parts_rel ht ps.toList i hi)
        refine ⟨.agg a', ?_, hcl'.agg⟩
        simp only [Instr.build, Sem.run_bind, hrun, Result.andThen_ok, run_und hu, run_sz' hi, hps]
        erw [ha']
        rfl
      · cases h
    · cases h

theorem pack_ok {t : TypeId} {d : TypeDesc} (hd : P.underlying t = some d) {cs : List AV} {vs : Array Value} {v : AV} (h : pack P t cs = some v) (hc : CL w G Z cs vs) :
    (isAgg? P t = true → VR w G Z v (.agg vs)) ∧ (isAgg? P t = false → cs.length = 1 ∧ VR w G Z v (vs.getD 0 undef)) := by
  unfold pack at h
  refine ⟨fun ha => ?_, fun ha => ?_⟩
  · rw [ha] at h; cases h; exact hc.agg
  · rw [ha] at h
    simp only at h
    split at h
    · cases h; exact ⟨rfl, hc.vr 0 (by simp)⟩
    · cases h

theorem zeroAV_ok {t : TypeId} {v : AV} (h : zeroAV P t = some v) : ∃ u, (∀ w, (zeroValue t).run P w = .ok u w) ∧ (∀ w G Z, VR w G Z v u) := by
  unfold zeroAV at h
  split at h
  · rename_i i hi
    split at h
    · rename_i cs hv
      split at h
      · rename_i hb
        obtain rfl := Option.some.inj h
        refine ⟨.agg cs, fun w => by simp [zeroValue, typeInfo, hi, hv], fun w G Z => ?_⟩
        exact (zero_CL cs hb).agg
      · cases h
    · rename_i v' hne hv
      obtain rfl := Option.some.inj h
      exact ⟨v', fun w => by simp [zeroValue, typeInfo, hi, hv], fun w G Z => ofVal_ok _⟩
    · cases h
  · cases h
end Go.Eng

set_option linter.unusedVariables false
set_option linter.unusedSimpArgs false
namespace Go.Eng
open Go.RowKit

variable {P : Program} {w : World} {G : Gh} {Z : Nat → Prop} {tc : Nat → Cd}

theorem tup2 {x y : AV} {u u' : Value} (h : VR w G Z x u) (h' : VR w G Z y u') : VR w G Z (.tup [x, y]) (.tuple #[u, u']) := by
  refine .tup _ _ rfl fun j hj => ?_
  match j, hj with
  | 0, _ => exact h
  | 1, _ => exact h'

theorem opAssert_ok {x v : AV} {u : Value} {xt t : TypeId} {ok : Bool} (h : opAssert P x t ok = some (true, v)) (hx : VR w G Z x u) :
    RT P w G Z (Instr.typeAssert u xt t ok) v := by
  unfold opAssert at h
  split at h
  · cases h
  · cases h
  · rename_i d hni hd
    have hni' : ∀ ms, d ≠ .interface ms := fun ms e => hni ms e
    split at h
    · rename_i t' y
      cases hx
      rename_i u hy
      split at h
      · rename_i he
        obtain rfl : t' = t := by simpa using he
        cases ok with
        | true =>
          cases h
          refine ⟨.tuple #[u, .bool true], ?_, tup2 hy (.bool true)⟩
          simp only [Instr.typeAssert, Sem.run_bind, run_und hd, Result.andThen_ok]
          cases d <;> first | exact absurd rfl (hni' _) | simp
        | false =>
          cases h
          refine ⟨u, ?_, hy⟩
          simp only [Instr.typeAssert, Sem.run_bind, run_und hd, Result.andThen_ok]
          cases d <;> first | exact absurd rfl (hni' _) | simp
      · rename_i he
        have he' : t' ≠ t := by
          intro e; subst e; simp at he
        split at h
        · split at h
          · rename_i z hz
            cases h
            obtain ⟨zu, hz1, hz2⟩ := zeroAV_ok hz
            refine ⟨.tuple #[zu, .bool false], ?_, tup2 (hz2 w G Z) (.bool false)⟩
            simp only [Instr.typeAssert, Sem.run_bind, run_und hd, Result.andThen_ok]
            cases d <;> first | exact absurd rfl (hni' _) | simp [he', hz1]
          · cases h
        · cases h
    · cases hx
      split at h
      · split at h
        · rename_i z hz
          cases h
          obtain ⟨zu, hz1, hz2⟩ := zeroAV_ok hz
          refine ⟨.tuple #[zu, .bool false], ?_, tup2 (hz2 w G Z) (.bool false)⟩
          simp only [Instr.typeAssert, Sem.run_bind, run_und hd, Result.andThen_ok]
          cases d <;> first | exact absurd rfl (hni' _) | simp [hz1]
        · cases h
      · cases h
    · cases h

theorem foldMM_ok {f : Int → Int → Int} {m : Value → Value → Sem Value} (hf : ∀ a b, f a b = a ∨ f a b = b) (hm : ∀ k a k' b (w : World), (m (.int k a) (.int k' b)).run P w = .ok (.int k (f a b)) w) :
    ∀ (r : List AV) (x v : AV) (rs : List Value) (u : Value), foldMM f x r = some v → VR w G Z x u → r.length = rs.length → (∀ j, j < r.length → VR w G Z (getT r j) (rs.getD j undef)) →
    ∃ u', (rs.foldlM m u).run P w = .ok u' w ∧ VR w G Z v u'
  | [], x, v, rs, u, h, hx, hl, hr => by
    cases rs with
    | cons _ _ => simp at hl
    | nil => simp only [foldMM] at h; cases h; exact ⟨u, by simp, hx⟩
  | y :: r, x, v, rs, u, h, hx, hl, hr => by
    cases rs with
    | nil => simp at hl
    | cons u2 rs =>
      have hy := hr 0 (by simp)
      cases x <;> cases y <;> simp only [foldMM] at h <;> try cases h
      rename_i k a k' b
      split at h
      · rename_i hk
        obtain rfl := kEq_eq hk
        cases hx with | int _ _ h1 =>
        simp only [getT, List.getD_cons_zero] at hy
        cases hy with | int _ _ h2 =>
        have ih := foldMM_ok hf hm r _ v rs (.int k (f a b)) h (.int k _ (by rcases hf a b with e | e <;> rw [e] <;> assumption)) (by simpa using hl) (fun j hj => by
          have := hr (j + 1) (by simp; omega)
          simpa [getT] using this)
        obtain ⟨u', h3, h4⟩ := ih
        exact ⟨u', by simp [List.foldlM_cons, hm, h3], h4⟩
      · cases h

theorem argL {tm : List AV} {a : Act} (ht : TR w G Z tm a.tmps) (os : List Operand) (j : Nat) (hj : j < (os.map (ev1 tm)).length) :
    VR w G Z (getT (os.map (ev1 tm)) j) ((os.map a.eval).getD j undef) := by
  have hj' : j < os.length := by simpa using hj
  have := ev1_ok ht os[j]
  rw [getT_getElem?]
  simpa [hj'] using this

/-! ### Slices -/

def Bd (ov : Option Value) (d n : Int) : Prop := (ov = none ∧ n = d) ∨ ∃ k, ov = some (.int k n)

theorem sB_ok {tm : List AV} {a : Act} (ht : TR w G Z tm a.tmps) {o : Option Operand} {d n : Int} (h : sB tm o d = some n) : Bd (o.map a.eval) d n := by
  unfold sB at h
  split at h
  · cases h; exact .inl ⟨rfl, rfl⟩
  · rename_i x
    have hx := ev1_ok ht x
    split at h
    · rename_i k m he
      cases h
      rw [he] at hx
      obtain ⟨u, hu⟩ : ∃ u, u = a.eval x := ⟨_, rfl⟩
      rw [← hu] at hx
      cases hx
      exact .inr ⟨k, by simp [← hu]⟩
    · cases h

theorem run_b2 {s : Bool} {len cap : Nat} {lo hi : Option Value} {l h : Int} (hl : Bd lo 0 l) (hh : Bd hi len h) (h0 : 0 ≤ l) (h1 : l ≤ h) (h2 : h ≤ cap) :
    (Instr.sliceBounds s len cap lo hi none).run P w = .ok (l.toNat, h.toNat, cap) w := by
  have h3 : 0 ≤ h := by omega
  have h4 : (h.toNat : Int) = h := Int.toNat_of_nonneg h3
  rcases hl with ⟨rfl, rfl⟩ | ⟨k, rfl⟩ <;> rcases hh with ⟨rfl, rfl⟩ | ⟨k', rfl⟩ <;>
    simp [Instr.sliceBounds, run_sliceBound, h0, h1, h2, h3, h4]
theorem run_b3 {s : Bool} {len cap : Nat} {lo : Option Value} {k k' : IntKind} {l h m : Int} (hl : Bd lo 0 l) (h0 : 0 ≤ l) (h1 : l ≤ h) (h2 : h ≤ m) (h3 : m ≤ cap) :
    (Instr.sliceBounds s len cap lo (some (.int k h)) (some (.int k' m))).run P w = .ok (l.toNat, h.toNat, m.toNat) w := by
  have h5 : 0 ≤ h := by omega
  have h6 : 0 ≤ m := by omega
  have h4 : (h.toNat : Int) = h := Int.toNat_of_nonneg h5
  have h7 : (m.toNat : Int) = m := Int.toNat_of_nonneg h6
  rcases hl with ⟨rfl, rfl⟩ | ⟨k, rfl⟩ <;>
    simp [Instr.sliceBounds, run_sliceBound, h0, h1, h2, h3, h4, h5, h6, h7]

theorem und_elem {t e : TypeId} (h : P.underlying t = some (.slice e)) : P.underlying t = some (.slice (P.elem t)) ∧ P.elem t = e := by
  have : P.elem t = e := by simp [Program.elem, h]
  exact ⟨by rw [this]; exact h, this⟩

theorem run_sl {t e : TypeId} (hu : P.underlying t = some (.slice e)) {i : TypeInfo} (hi : P.info? e = some i) {a : Option Addr} {len cap : Nat} {lo hi' mx : Option Value} {l h m : Nat}
    (hb : (Instr.sliceBounds true len cap lo hi' mx).run P w = .ok (l, h, m) w) :
    (Instr.sliceAt t (.slice a len cap) lo hi' mx).run P w = .ok (.slice (if m = l then a else a.map (·.add (l * P.cellsOf e))) (h - l) (m - l)) w := by
  obtain ⟨h1, h2⟩ := und_elem hu
  rw [run_sliceAt_slice w t _ lo hi' mx h1, run_slice_any w t a len cap h1]
  rw [hb, h2]
  simp only [Result.andThen_ok, run_sz' hi, sliced]

theorem clip_imm {c : Cd} {l : List c.T} {u : Value} (h : VR w G Z (.clip c l) u) : VR w G Z (.imm c l) u := by
  cases h with
  | clip _ _ b o vs h1 h2 h3 => exact .imm c l b o l.length vs h1 (Nat.le_refl _) h2 h3
  | clip0 _ a => exact .imm0 c a 0

theorem getD_dt {α : Type} (l : List α) (s n i : Nat) (d : α) (h : i < ((l.drop s).take n).length) : ((l.drop s).take n).getD i d = l.getD (s + i) d := by
  simp only [List.length_take, List.length_drop] at h
  simp only [List.getD, List.getElem?_take, List.getElem?_drop]
  rw [if_pos (by omega)]

theorem imm_sub {c : Cd} {l : List c.T} {u : Value} (h : VR w G Z (.imm c l) u) : ∃ A cap, u = .slice A l.length cap ∧ l.length ≤ cap ∧
    (∀ s n, s + n ≤ l.length → VR w G Z (.imm c ((l.drop s).take n)) (.slice (if cap = s then A else A.map (·.add (s * csz c))) n (cap - s))) ∧
    (∀ s n, s + n ≤ l.length → VR w G Z (.clip c ((l.drop s).take n)) (.slice (if s + n = s then A else A.map (·.add (s * csz c))) n n)) := by
  cases h with
  | imm _ _ b o cap vs h1 h2 h3 h4 =>
    refine ⟨_, cap, rfl, h2, fun s n hs => ?_, fun s n hs => ?_⟩
    · have hln : ((l.drop s).take n).length = n := by simp; omega
      by_cases he : cap = s
      · obtain rfl : n = 0 := by omega
        have : (l.drop s).take 0 = [] := by simp
        rw [this]
        exact .imm0 c _ _
      · rw [if_neg he]
        have e1 : (some (ad b o)).map (·.add (s * csz c)) = some (ad b (o + s * csz c)) := by simp [add_ad]
        rw [e1]
        have := VR.imm (w := w) (G := G) (Z := Z) c ((l.drop s).take n) b (o + s * csz c) (cap - s) (fun i j => vs (s + i) j) h1 (by omega) (fun i hi j hj => by
          have e : o + s * csz c + i * csz c + j = o + (s + i) * csz c + j := by rw [Nat.add_mul]; omega
          rw [e]
          exact h3 (s + i) (by omega) j hj) (fun i hi j hj => by
          rw [getD_dt _ _ _ _ _ hi]
          exact h4 (s + i) (by omega) j hj)
        rwa [hln] at this
    · have hln : ((l.drop s).take n).length = n := by simp; omega
      by_cases he : s + n = s
      · obtain rfl : n = 0 := by omega
        have : (l.drop s).take 0 = [] := by simp
        rw [this]
        exact .clip0 c _
      · rw [if_neg he]
        have e1 : (some (ad b o)).map (·.add (s * csz c)) = some (ad b (o + s * csz c)) := by simp [add_ad]
        rw [e1]
        have := VR.clip (w := w) (G := G) (Z := Z) c ((l.drop s).take n) b (o + s * csz c) (fun i j => vs (s + i) j) h1 (fun i hi j hj => by
          have e : o + s * csz c + i * csz c + j = o + (s + i) * csz c + j := by rw [Nat.add_mul]; omega
          rw [e]
          exact h3 (s + i) (by omega) j hj) (fun i hi j hj => by
          rw [getD_dt _ _ _ _ _ hi]
          exact h4 (s + i) (by omega) j hj)
        rwa [hln] at this
  | imm0 _ a cap =>
    refine ⟨_, cap, rfl, by simp, fun s n hs => ?_, fun s n hs => ?_⟩
    · obtain ⟨rfl, rfl⟩ : s = 0 ∧ n = 0 := by simp at hs; omega
      exact .imm0 c _ _
    · obtain ⟨rfl, rfl⟩ : s = 0 ∧ n = 0 := by simp at hs; omega
      exact .clip0 c _

theorem own_sub {nm : Nat} {c : Cd} {off len : Nat} {tl : Bool} {u : Value} (h : VR w G Z (.own nm c off len tl) u) : ∃ A cap, u = .slice A len cap ∧ len ≤ cap ∧
    (∀ s n tl', s + n ≤ len → (tl' = true → tl = true ∧ s + n = len) → VR w G Z (.own nm c (off + s) n tl') (.slice (if cap = s then A else A.map (·.add (s * csz c))) n (cap - s))) := by
  cases h with
  | own _ _ _ _ _ ni b o cap e S h1 h2 h3 h4 h5 h6 h7 h8 =>
    refine ⟨_, cap, rfl, h6, fun s n tl' hs ht => ?_⟩
    by_cases he : cap = s
    · obtain rfl : n = 0 := by omega
      rw [if_pos he]
      subst he
      rw [Nat.sub_self]
      exact .own0 nm c _ _ ni _ h1 h3 (by omega) (fun e => by have := h5 (ht e).1; have := (ht e).2; omega)
    · rw [if_neg he]
      have e1 : (some (ad b (o + off * csz c))).map (·.add (s * csz c)) = some (ad b (o + (off + s) * csz c)) := by
        simp only [Option.map_some, add_ad]
        rw [Nat.add_mul, Nat.add_assoc]
      rw [e1]
      exact .own nm c _ _ _ ni b o _ e S h1 h2 h3 (by omega) (fun e => by have := h5 (ht e).1; have := (ht e).2; omega) (by omega) h7 (by
        have : off + s + (cap - s) = off + cap := by omega
        rw [this]; exact h8)
  | own0 _ _ _ _ ni a h1 h3 h4 h5 =>
    refine ⟨_, 0, rfl, Nat.le_refl _, fun s n tl' hs ht => ?_⟩
    obtain ⟨rfl, rfl⟩ : s = 0 ∧ n = 0 := by omega
    exact .own0 nm c _ _ ni _ h1 h3 (by omega) (fun e => by have := h5 (ht e).1; omega)

theorem xown_sub {nm : Nat} {c : Cd} {off len : Nat} {u : Value} (h : VR w G Z (.xown nm c off len) u) : ∃ A cap, u = .slice A len cap ∧ len ≤ cap ∧
    (∀ s n, s + n ≤ len → VR w G Z (.xown nm c (off + s) n) (.slice (if cap = s then A else A.map (·.add (s * csz c))) n (cap - s))) := by
  cases h with
  | xown _ _ _ _ ni b o cap h1 h2 h6 =>
    refine ⟨_, cap, rfl, h6, fun s n hs => ?_⟩
    by_cases he : cap = s
    · obtain rfl : n = 0 := by omega
      rw [if_pos he]
      subst he
      rw [Nat.sub_self]
      exact .xown0 nm c _ _
    · rw [if_neg he]
      have e1 : (some (ad b (o + off * csz c))).map (·.add (s * csz c)) = some (ad b (o + (off + s) * csz c)) := by
        simp only [Option.map_some, add_ad]
        rw [Nat.add_mul, Nat.add_assoc]
      rw [e1]
      exact .xown nm c _ _ ni b o _ h1 h2 (by omega)
  | xown0 _ _ _ a =>
    refine ⟨_, 0, rfl, Nat.le_refl _, fun s n hs => ?_⟩
    obtain ⟨rfl, rfl⟩ : s = 0 ∧ n = 0 := by omega
    exact .xown0 nm c _ _

theorem okS_iff {lo hi : Int} {n : Nat} : okS lo hi n = true ↔ 0 ≤ lo ∧ lo ≤ hi ∧ hi ≤ n := by simp [okS, and_assoc]
theorem isNone_none {α : Type} {x : Option α} (h : isNone x = true) : x = none := by
  cases x with
  | none => rfl
  | some _ => cases h
theorem isZ_some {o : Option Operand} (h : isZ o = true) (a : Act) : ∃ k, o.map a.eval = some (.int k 0) := by
  unfold isZ at h
  split at h
  · rename_i k; exact ⟨k, rfl⟩
  · cases h

theorem str_sub (l : List UInt8) (a b : Nat) : (⟨l.toArray⟩ : ByteArray).extract a b = ⟨((l.drop a).take (b - a)).toArray⟩ := by
  apply ByteArray.ext
  rw [ByteArray.data_extract]
  simp [List.take_drop]

theorem opSlice_ok {tm : List AV} {a : Act} (ht : TR w G Z tm a.tmps) {t : TypeId} {x v : AV} {u : Value} {lo hi mx : Option Operand}
    (h : opSlice P tc tm t x lo hi mx = some (true, v)) (hx : VR w G Z x u) : RT P w G Z (Instr.sliceAt t u (lo.map a.eval) (hi.map a.eval) (mx.map a.eval)) v := by
  unfold opSlice at h
  split at h
  · rename_i n e hu
    have core : ∀ (nm off : Nat) (l h' : Int), (Nat.beq (P.cellsOf e) 1 && Nat.beq (csz (tc e)) 1) = true → Bd (lo.map a.eval) 0 l → Bd (hi.map a.eval) n h' → 0 ≤ l → l ≤ h' → h' ≤ n →
        VR w G Z (.ptr nm off) u → RT P w G Z (Instr.sliceAt t u (lo.map a.eval) (hi.map a.eval) ((none : Option Operand).map a.eval)) (.xown nm (tc e) (off + l.toNat) (h' - l).toNat) := by
      intro nm off l h' hc hl hh h0 h1 h2 hv
      cases hv with | ptr _ _ ni b o g1 g2 =>
      simp only [Bool.and_eq_true] at hc
      have hc1 : P.cellsOf e = 1 := by simpa using hc.1
      have hc2 : csz (tc e) = 1 := by simpa using hc.2
      obtain ⟨i, hi'⟩ := info_of_cells hc1 (by omega)
      have hb := run_b2 (P := P) (w := w) (s := false) (len := n) (cap := n) hl hh h0 h1 h2
      have e3 : h'.toNat - l.toNat = (h' - l).toNat := by omega
      refine ⟨.slice (some (if n = l.toNat then ad b (o + off) else (ad b (o + off)).add (l.toNat * P.cellsOf e))) (h' - l).toNat (n - l.toNat), ?_, ?_⟩
      · simp only [Instr.sliceAt, Instr.sureAddr, Sem.run_bind, run_und hu, Result.andThen_ok, Sem.run_pure, Option.map_none, hb, run_sz' hi', e3]
      · by_cases he : n = l.toNat
        · rw [if_pos he]
          have e4 : (h' - l).toNat = 0 := by omega
          have e5 : n - l.toNat = 0 := by omega
          rw [e4, e5]
          exact .xown0 _ _ _ _
        · rw [if_neg he, add_ad, hc1, Nat.mul_one]
          have := VR.xown (w := w) (G := G) (Z := Z) nm (tc e) (off + l.toNat) (h' - l).toNat ni b o (n - l.toNat) g1 g2 (by omega)
          rwa [hc2, Nat.mul_one, ← Nat.add_assoc] at this
    split at h
    · split at h
      · rename_i nm off _ hc
        cases h
        have := core nm off 0 n hc (.inl ⟨rfl, rfl⟩) (.inl ⟨rfl, rfl⟩) (by omega) (by omega) (by omega) hx
        simpa using this
      · cases h
    · split at h
      · rename_i nm off hne _ _ _ l h' hc hl hh
        simp only [Option.some.injEq, Prod.mk.injEq] at h
        obtain ⟨hok, rfl⟩ := h
        obtain ⟨h0, h1, h2⟩ := okS_iff.1 hok
        exact core nm off l h' hc (sB_ok ht hl) (sB_ok ht hh) h0 h1 h2 hx
      · cases h
    · cases h
  · rename_i hu
    split at h
    · rename_i s
      cases hx
      split at h
      · rename_i l h' hl hh
        have hl' := sB_ok ht hl
        have hh' := sB_ok ht hh
        obtain ⟨hok, rfl⟩ := (by simpa using h : okS l h' s.length = true ∧ _)
        obtain ⟨h0, h1, h2⟩ := okS_iff.1 hok
        refine ⟨.string ⟨((s.drop l.toNat).take (h' - l).toNat).toArray⟩, ?_, .str _⟩
        rw [Option.map_none, run_sliceAt_string w t _ _ _ _ hu]
        have hb := run_b2 (P := P) (w := w) (s := false) (len := s.length) (cap := s.length) hl' hh' h0 h1 h2
        simp only [Instr.slice, Sem.run_bind, run_und hu, Result.andThen_ok]
        have hsz : (⟨s.toArray⟩ : ByteArray).size = s.length := by simp [ByteArray.size]
        simp only [Option.isSome_none, Bool.false_eq_true, if_false, Sem.run_pure, Result.andThen_ok, hsz, Sem.run_bind, hb, str_sub]
        have e3 : h'.toNat - l.toNat = (h' - l).toNat := by omega
        rw [e3]
      · cases h
    · cases h
  · rename_i e hu
    split at h
    · cases h
    · rename_i hie
      obtain ⟨i, hi'⟩ := isSome_ex hie
      split at h
      · rename_i m
        split at h
        · rename_i hz
          simp only [Bool.and_eq_true] at hz
          obtain rfl := isNone_none hz.1
          obtain ⟨k1, hk1⟩ := isZ_some hz.2.1 a
          obtain ⟨k2, hk2⟩ := isZ_some hz.2.2 a
          have key : ∀ A len cap, (Instr.sliceAt t (.slice A len cap) ((none : Option Operand).map a.eval) (hi.map a.eval) ((some m).map a.eval)).run P w = .ok (.slice A 0 0) w := by
            intro A len cap
            rw [hk1, hk2]
            have hb := run_b3 (P := P) (w := w) (s := true) (len := len) (cap := cap) (k := k1) (k' := k2) (lo := none) (l := 0) (h := 0) (m := 0) (.inl ⟨rfl, rfl⟩) (by omega) (by omega) (by omega) (by omega)
            rw [Option.map_none, run_sl hu hi' hb]
            rfl
          split at h <;> cases h
          · cases hx with
            | imm => exact ⟨_, key _ _ _, .cap0 _ _⟩
            | imm0 => exact ⟨_, key _ _ _, .cap0 _ _⟩
          · cases hx with
            | clip => exact ⟨_, key _ _ _, .cap0 _ _⟩
            | clip0 => exact ⟨_, key _ _ _, .cap0 _ _⟩
          · cases hx
            exact ⟨_, key _ _ _, .nils⟩
          · cases hx with
            | own => exact ⟨_, key _ _ _, .cap0 _ _⟩
            | own0 => exact ⟨_, key _ _ _, .cap0 _ _⟩
          · cases hx
            exact ⟨_, key _ _ _, .cap0 _ _⟩
        · split at h
          · cases h
          · rename_i hhi
            cases hi with
            | none => cases hhi
            | some hi =>
            have core : ∀ (c : Cd) (l : List c.T) (p q r : Int), sB tm lo 0 = some p → sB tm (some hi) 0 = some q → sB tm (some m) 0 = some r →
                (Nat.beq (P.cellsOf e) (csz c) && (okS p q l.length && decide (q = r))) = true → VR w G Z (.imm c l) u →
                RT P w G Z (Instr.sliceAt t u (lo.map a.eval) ((some hi).map a.eval) ((some m).map a.eval)) (.clip c ((l.drop p.toNat).take (q - p).toNat)) := by
              intro c l p q r hp hq hr hok hv
              simp only [Bool.and_eq_true, decide_eq_true_eq] at hok
              obtain ⟨hcs, hok, rfl⟩ := hok
              obtain ⟨h0, h1, h2⟩ := okS_iff.1 hok
              obtain ⟨A, cap, rfl, hc, _, hcl⟩ := imm_sub hv
              have hp' := sB_ok ht hp
              rcases sB_ok ht hq with ⟨e1, _⟩ | ⟨k1, hk1⟩
              · cases e1
              rcases sB_ok ht hr with ⟨e1, _⟩ | ⟨k2, hk2⟩
              · cases e1
              have hb := run_b3 (P := P) (w := w) (s := true) (len := l.length) (cap := cap) (k := k1) (k' := k2) (l := p) (h := q) (m := q) hp' h0 h1 (by omega) (by omega)
              refine ⟨_, by rw [hk1, hk2]; exact run_sl hu hi' hb, ?_⟩
              have := hcl p.toNat (q - p).toNat (by omega)
              have e2 : P.cellsOf e = csz c := by simpa using hcs
              have e3 : q.toNat - p.toNat = (q - p).toNat := by omega
              have e4 : p.toNat + (q - p).toNat = q.toNat := by omega
              rw [e2, e3]
              rwa [e4] at this
            unfold opSl3 at h
            split at h
            · rename_i c l p q r hp hq hr
              simp only [Option.some.injEq, Prod.mk.injEq] at h
              obtain ⟨hok, rfl⟩ := h
              exact core c l p q r hp hq hr hok hx
            · rename_i c l p q r hp hq hr
              simp only [Option.some.injEq, Prod.mk.injEq] at h
              obtain ⟨hok, rfl⟩ := h
              exact core c l p q r hp hq hr hok (clip_imm hx)
            · rename_i nm c off len p q r hp hq hr
              simp only [Option.some.injEq, Prod.mk.injEq] at h
              obtain ⟨hok, rfl⟩ := h
              simp only [Bool.and_eq_true, decide_eq_true_eq] at hok
              obtain ⟨hcs, hok, rfl⟩ := hok
              obtain ⟨h0, h1, h2⟩ := okS_iff.1 hok
              have hp' := sB_ok ht hp
              rcases sB_ok ht hq with ⟨e1, _⟩ | ⟨k1, hk1⟩
              · cases e1
              rcases sB_ok ht hr with ⟨e1, _⟩ | ⟨k2, hk2⟩
              · cases e1
              obtain ⟨A, cap, rfl, hc, hcl⟩ := xown_sub hx
              have hb := run_b3 (P := P) (w := w) (s := true) (len := len) (cap := cap) (k := k1) (k' := k2) (l := p) (h := q) (m := q) hp' h0 h1 (by omega) (by omega)
              refine ⟨_, by rw [hk1, hk2]; exact run_sl hu hi' hb, ?_⟩
              have e2 : P.cellsOf e = csz c := by simpa using hcs
              have e3 : q.toNat - p.toNat = (q - p).toNat := by omega
              rw [e2, e3]
              by_cases hz : q.toNat = p.toNat
              · have : (q - p).toNat = 0 := by omega
                rw [this]
                exact .xown0 nm c _ _
              · rw [if_neg hz]
                have := hcl p.toNat (q - p).toNat (by omega)
                rw [if_neg (by omega)] at this
                obtain ⟨u', hu'⟩ : ∃ u', u' = A.map (·.add (p.toNat * csz c)) := ⟨_, rfl⟩
                rw [← hu'] at this ⊢
                generalize (q - p).toNat = kk at this ⊢
                generalize cap - p.toNat = cc at this
                cases this with
                | xown _ _ _ _ ni b o cap' g1 g2 g3 => exact .xown nm c _ _ ni b o _ g1 g2 (Nat.le_refl _)
                | xown0 => exact .xown0 nm c _ _
            · cases h
      · have core : ∀ (c : Cd) (l : List c.T) (p q : Int), Nat.beq (P.cellsOf e) (csz c) = true → sB tm lo 0 = some p → sB tm hi l.length = some q →
            okS p q l.length = true → VR w G Z (.imm c l) u →
            RT P w G Z (Instr.sliceAt t u (lo.map a.eval) (hi.map a.eval) ((none : Option Operand).map a.eval)) (.imm c ((l.drop p.toNat).take (q - p).toNat)) := by
          intro c l p q hcs hp hq hok hv
          obtain ⟨h0, h1, h2⟩ := okS_iff.1 hok
          obtain ⟨A, cap, rfl, hc, hcl, _⟩ := imm_sub hv
          have hb := run_b2 (P := P) (w := w) (s := true) (len := l.length) (cap := cap) (sB_ok ht hp) (sB_ok ht hq) h0 h1 (by omega)
          refine ⟨_, run_sl hu hi' hb, ?_⟩
          have := hcl p.toNat (q - p).toNat (by omega)
          have e2 : P.cellsOf e = csz c := by simpa using hcs
          have e3 : q.toNat - p.toNat = (q - p).toNat := by omega
          rw [e2, e3]
          exact this
        split at h
        · split at h
          · rename_i p q hp hq
            simp only [Option.some.injEq, Prod.mk.injEq] at h
            obtain ⟨hok, rfl⟩ := h
            obtain ⟨h0, h1, h2⟩ := okS_iff.1 hok
            cases hx
            have hb := run_b2 (P := P) (w := w) (s := true) (len := 0) (cap := 0) (sB_ok ht hp) (sB_ok ht hq) h0 h1 (by omega)
            refine ⟨_, run_sl hu hi' hb, ?_⟩
            obtain ⟨rfl, rfl⟩ : p = 0 ∧ q = 0 := by omega
            exact .nils
          · cases h
        · split at h
          · rename_i c l _ _ _ p q hcs hp hq
            simp only [Option.some.injEq, Prod.mk.injEq] at h
            obtain ⟨hok, rfl⟩ := h
            exact core c l p q hcs hp hq hok hx
          · cases h
        · split at h
          · rename_i c l _ _ _ p q hcs hp hq
            simp only [Option.some.injEq, Prod.mk.injEq] at h
            obtain ⟨hok, rfl⟩ := h
            exact core c l p q hcs hp hq hok (clip_imm hx)
          · cases h
        · split at h
          · rename_i nm c off len tl _ _ _ p q hcs hp hq
            simp only [Option.some.injEq, Prod.mk.injEq] at h
            obtain ⟨hok, rfl⟩ := h
            obtain ⟨h0, h1, h2⟩ := okS_iff.1 hok
            obtain ⟨A, cap, rfl, hc, hcl⟩ := own_sub hx
            have hb := run_b2 (P := P) (w := w) (s := true) (len := len) (cap := cap) (sB_ok ht hp) (sB_ok ht hq) h0 h1 (by omega)
            refine ⟨_, run_sl hu hi' hb, ?_⟩
            have := hcl p.toNat (q - p).toNat (isNone hi && tl) (by omega) (by
              intro hh
              simp only [Bool.and_eq_true] at hh
              refine ⟨hh.2, ?_⟩
              obtain rfl := isNone_none hh.1
              cases hq
              omega)
            have e2 : P.cellsOf e = csz c := by simpa using hcs
            have e3 : q.toNat - p.toNat = (q - p).toNat := by omega
            rw [e2, e3]
            exact this
          · cases h
        · split at h
          · rename_i nm c off len _ _ _ p q hcs hp hq
            simp only [Option.some.injEq, Prod.mk.injEq] at h
            obtain ⟨hok, rfl⟩ := h
            obtain ⟨h0, h1, h2⟩ := okS_iff.1 hok
            obtain ⟨A, cap, rfl, hc, hcl⟩ := xown_sub hx
            have hb := run_b2 (P := P) (w := w) (s := true) (len := len) (cap := cap) (sB_ok ht hp) (sB_ok ht hq) h0 h1 (by omega)
            refine ⟨_, run_sl hu hi' hb, ?_⟩
            have := hcl p.toNat (q - p).toNat (by omega)
            have e2 : P.cellsOf e = csz c := by simpa using hcs
            have e3 : q.toNat - p.toNat = (q - p).toNat := by omega
            rw [e2, e3]
            exact this
          · cases h
        · cases h
  · cases h
end Go.Eng

set_option linter.unusedVariables false
set_option linter.unusedSimpArgs false
namespace Go.Eng
open Go.RowKit

variable {P : Program} {w : World} {G : Gh} {Z : Nat → Prop} {tc : Nat → Cd}

/-- What an operation gives. -/
def RX (P : Program) (w : World) (G : Gh) (Z : Nat → Prop) (s : Sem Next) (v : AV) : Prop := ∃ u, s.run P w = .ok (.value u) w ∧ VR w G Z v u

theorem RT.rx {s : Sem Value} {v : AV} (h : RT P w G Z s v) : RX P w G Z (do pure (.value (← s))) v := by
  obtain ⟨u, h1, h2⟩ := h
  exact ⟨u, by simp [h1], h2⟩

theorem isCn_ex {x : Operand} (h : isCn x = true) : ∃ v, x = .const v := by
  cases x with
  | const v => exact ⟨v, rfl⟩
  | _ => cases h

theorem opBin_agg {op : BinOp} {t : TypeId} {cs : List AV} {y v : AV} {b : Bool} (h : opBin P op t (.agg cs) y = some (b, v)) : ∃ ds, y = .agg ds := by
  cases y <;> simp only [opBin] at h <;> first | exact ⟨_, rfl⟩ | cases h | (split at h <;> cases h)

theorem opP_ok {tm : List AV} {a : Act} (ht : TR w G Z tm a.tmps) {o : Oper} {v : AV} (h : opP P tc tm o = some (true, v)) : RX P w G Z (execOp a.eval o) v := by
  obtain ⟨op, dst, oty, pos, after, guard⟩ := o
  unfold opP at h
  simp only at h
  unfold execOp
  split at h <;> simp only
  · cases h; exact ⟨_, rfl, ev1_ok ht _⟩
  · cases h; exact ⟨_, rfl, ev1_ok ht _⟩
  · rename_i c x y
    have hc := ev1_ok ht c
    split at h
    · rename_i b hb
      rw [hb] at hc
      obtain ⟨u, hu⟩ : ∃ u, u = a.eval c := ⟨_, rfl⟩
      rw [← hu] at hc ⊢
      cases hc
      cases h
      refine ⟨if b then a.eval x else a.eval y, by simp [asBool], ?_⟩
      cases b
      · exact ev1_ok ht y
      · exact ev1_ok ht x
    · cases h
  · rename_i x
    have hc := ev1_ok ht x
    obtain ⟨u, hu⟩ : ∃ u, u = a.eval x := ⟨_, rfl⟩
    rw [← hu] at hc ⊢
    split at h
    all_goals first
      | (rename_i hb; rw [hb] at hc; cases h; cases hc; refine ⟨_, rfl, ?_⟩
         first
          | exact .ptr _ _ _ _ _ (by assumption) (by assumption)
          | exact .eptr _ _ _ _ _ _ (by assumption) (by assumption) (by assumption)
          | exact .iptr _ _ _ _ _ _ (by assumption) (by assumption) (by assumption))
      | cases h
  · rename_i op t x y _
    have hx := ev1_ok ht x
    have hy := ev1_ok ht y
    refine RT.rx ?_
    split at h
    · rename_i e1 e2
      rw [e1] at hx
      rw [e2] at hy
      obtain ⟨u, hu⟩ : ∃ u, u = a.eval x := ⟨_, rfl⟩
      obtain ⟨u', hu'⟩ : ∃ u, u = a.eval y := ⟨_, rfl⟩
      rw [← hu] at hx ⊢
      rw [← hu'] at hy ⊢
      cases hx; cases hy
      split at h
      · rename_i ms hcn hd
        refine eqlB_ok h (fun hop w => ?_) ?_ ?_
        · unfold eqGuard
          simp only [Bool.or_eq_true] at hcn
          rcases hop with rfl | rfl <;> rcases hcn with hcn | hcn <;> obtain ⟨c, rfl⟩ := isCn_ex hcn <;> simp
        · have : (Op.equal t .nilIface .nilIface).run P w = .ok true w := run_equal_of fun d => by
            simp only [Op.equalIn, Sem.run_bind, run_und hd, Result.andThen_ok, Sem.run_pure]
          simp [binOp, this]
        · have : (Op.equal t .nilIface .nilIface).run P w = .ok true w := run_equal_of fun d => by
            simp only [Op.equalIn, Sem.run_bind, run_und hd, Result.andThen_ok, Sem.run_pure]
          simp [binOp, this]
      · cases h
    · rename_i cs ds e1 e2
      rw [e1] at hx
      rw [e2] at hy
      split at h
      · rename_i hg
        exact opBin_ok h hx hy fun _ => hg
      · cases h
    · rename_i hne1 hne2
      refine opBin_ok h hx hy ?_
      rintro ⟨cs, e⟩
      exfalso
      have h' := h
      rw [e] at h'
      obtain ⟨ds, e'⟩ := opBin_agg h'
      exact hne2 cs ds e e'
  · exact (opUn_ok h (ev1_ok ht _)).rx
  · exact (opConvP_ok h (ev1_ok ht _)).rx
  · rename_i t x
    refine RT.rx ?_
    have hx := ev1_ok ht x
    split at h
    · cases h
    · rename_i d hd hni
      cases h
      refine ⟨.iface t (a.eval x), ?_, .iface _ _ _ hx⟩
      simp only [Instr.makeInterface, Sem.run_bind, run_und hni, Result.andThen_ok]
      cases d <;> first | rfl | exact absurd rfl (hd _)
    · cases h
  · rename_i f fs cs
    refine RT.rx ?_
    split at h
    · rename_i hfs
      cases h
      have e : fs = #[] := by
        apply Array.ext'; simpa using hfs
      subst e
      refine ⟨.func (.func f) #[] (cs.map a.eval), by simp [Instr.makeFunc], .fn _ _ _ (by simp) fun j hj => ?_⟩
      have := argL ht cs.toList j hj
      simpa [Array.getD_eq_getD_getElem?] using this
    · cases h
  · exact (opFieldAddr_ok h (ev1_ok ht _)).rx
  · exact (opField_ok h (ev1_ok ht _)).rx
  · exact (opIndexAddr_ok h (ev1_ok ht _) (ev1_ok ht _)).rx
  · exact (opIndex_ok h (ev1_ok ht _) (ev1_ok ht _)).rx
  · exact (opSlice_ok ht h (ev1_ok ht _)).rx
  · exact (opAssert_ok h (ev1_ok ht _)).rx
  · rename_i x i
    refine RT.rx ?_
    have hx := ev1_ok ht x
    obtain ⟨u, hu⟩ : ∃ u, u = a.eval x := ⟨_, rfl⟩
    rw [← hu] at hx ⊢
    split at h
    · rename_i vs he
      rw [he] at hx
      cases hx with | tup _ us h1 h2 =>
      split at h
      · rename_i v' hv
        cases h
        have hi : i < vs.length := (List.getElem?_eq_some_iff.1 hv).1
        have := h2 i hi
        rw [getT_getElem?, hv] at this
        have hi2 : i < us.size := by omega
        refine ⟨us.getD i undef, ?_, this⟩
        simp [Instr.extract, hi2, Array.getD]
      · cases h
    · cases h
  · exact (opBuild_ok h ht).rx
  · rename_i c
    split at h
    · rename_i hcal
      split at h
      · rename_i x t hx htt
        have e1 : c.args = #[x] := by apply Array.ext'; simpa using hx
        have e2 : c.argTypes = #[t] := by apply Array.ext'; simpa using htt
        have := (opLen_ok h (ev1_ok ht x) oty).rx
        simpa [resolve, hcal, e1, e2, invoke, builtin] using this
      · cases h
    · rename_i hcal
      split at h
      · rename_i x r hx
        split at h
        · rename_i v' hf
          cases h
          obtain ⟨u', h1, h2⟩ := foldMM_ok (w := w) (G := G) (Z := Z) (P := P) (f := minI) (m := Builtin.min2) (fun a b => by unfold minI; split <;> simp) (fun k a k' b w => by simp [Builtin.min2, minI]) _ _ _ (r.map a.eval) _ hf (ev1_ok ht x) (by simp) (fun j hj => argL ht r j hj)
          refine ⟨u', ?_, h2⟩
          simp [resolve, hcal, invoke, builtin, Builtin.min_, hx, h1]
        · cases h
      · cases h
    · rename_i hcal
      split at h
      · rename_i x r hx
        split at h
        · rename_i v' hf
          cases h
          obtain ⟨u', h1, h2⟩ := foldMM_ok (w := w) (G := G) (Z := Z) (P := P) (f := maxI) (m := Builtin.max2) (fun a b => by unfold maxI; split <;> simp) (fun k a k' b w => by simp [Builtin.max2, maxI]) _ _ _ (r.map a.eval) _ hf (ev1_ok ht x) (by simp) (fun j hj => argL ht r j hj)
          refine ⟨u', ?_, h2⟩
          simp [resolve, hcal, invoke, builtin, Builtin.max_, hx, h1]
        · cases h
      · cases h
    · cases h
  · cases h
end Go.Eng

set_option linter.unusedVariables false
set_option linter.unusedSimpArgs false
namespace Go.Eng
open Go.RowKit

/-! ### Names in a heap -/

theorem beq_ne {m n : Nat} (h : m ≠ n) : Nat.beq m n = false := by
  cases hb : Nat.beq m n
  · rfl
  · exact absurd (Nat.eq_of_beq_eq_true hb) h
theorem beq_self (m : Nat) : Nat.beq m m = true := by simp
theorem beq_false {m n : Nat} (h : Nat.beq m n = false) : m ≠ n := fun e => by subst e; rw [beq_self] at h; cases h

theorem hget_hset (h : AH) (n m : Nat) (x : Blk) : hget (hset h n x) m = if m = n then some x else hget h m := by
  induction h with
  | nil =>
    simp only [hset, hget]
    by_cases e : n = m
    · subst e; simp [beq_self]
    · rw [beq_ne e, if_neg (Ne.symm e)]
  | cons p r ih =>
    obtain ⟨k, b⟩ := p
    simp only [hset]
    split
    · rename_i hk
      obtain rfl := Nat.eq_of_beq_eq_true hk
      simp only [hget]
      by_cases e : k = m
      · subst e; simp [beq_self]
      · rw [beq_ne e, if_neg (Ne.symm e)]
    · rename_i hk
      have hk' := beq_false hk
      split
      · simp only [hget]
        by_cases e : n = m
        · subst e; simp [beq_self]
        · rw [beq_ne e, if_neg (Ne.symm e)]
      · simp only [hget, ih]
        by_cases e : k = m
        · subst e
          simp only [beq_self]
          rw [if_neg hk']
        · rw [beq_ne e]

theorem hget_hdel (h : AH) (n m : Nat) : hget (hdel h n) m = if m = n then none else hget h m := by
  induction h with
  | nil => simp [hdel, hget]
  | cons p r ih =>
    obtain ⟨k, b⟩ := p
    simp only [hdel]
    split
    · rename_i hk
      obtain rfl := Nat.eq_of_beq_eq_true hk
      rw [ih]
      split
      · rfl
      · rename_i hne
        simp only [hget, beq_ne (Ne.symm hne)]
    · rename_i hk
      have hk' := beq_false hk
      simp only [hget]
      by_cases e : k = m
      · subst e
        simp only [beq_self]
        rw [if_neg hk']
      · simp only [beq_ne e]
        exact ih

theorem memN_iff {n : Nat} : ∀ {l : List Nat}, memN n l = true ↔ n ∈ l
  | [] => by simp [memN]
  | m :: r => by
    simp only [memN, List.mem_cons]
    by_cases e : n = m
    · subst e; simp [beq_self]
    · simp only [beq_ne e, memN_iff (l := r), e, false_or]

theorem hget_pickH (ns : List Nat) (h : AH) (m : Nat) : hget (pickH ns h) m = if m ∈ ns then hget h m else none := by
  induction h with
  | nil => simp [pickH, hget]
  | cons p r ih =>
    obtain ⟨k, b⟩ := p
    simp only [pickH]
    split
    · rename_i hk
      have hk' := memN_iff.1 hk
      simp only [hget]
      by_cases e : k = m
      · subst e; simp [beq_self, hk']
      · simp only [beq_ne e]; exact ih
    · rename_i hk
      have hk' : k ∉ ns := fun h => by rw [memN_iff.2 h] at hk; cases hk
      rw [ih]
      split
      · rename_i hm
        have e : k ≠ m := fun e => hk' (e ▸ hm)
        simp only [hget, beq_ne e]
      · rfl
theorem hget_dropH (ns : List Nat) (h : AH) (m : Nat) : hget (dropH ns h) m = if m ∈ ns then none else hget h m := by
  induction h with
  | nil => simp [dropH, hget]
  | cons p r ih =>
    obtain ⟨k, b⟩ := p
    simp only [dropH]
    split
    · rename_i hk
      have hk' := memN_iff.1 hk
      rw [ih]
      split
      · rfl
      · rename_i hm
        have e : k ≠ m := fun e => hm (e ▸ hk')
        simp only [hget, beq_ne e]
    · rename_i hk
      have hk' : k ∉ ns := fun h => by rw [memN_iff.2 h] at hk; cases hk
      simp only [hget]
      by_cases e : k = m
      · subst e; simp [beq_self, hk']
      · simp only [beq_ne e]; exact ih
theorem hget_putH (h : AH) : ∀ (k : AH) (m : Nat), hget (putH h k) m = match hget k m with | some b => some b | none => hget h m
  | [], m => rfl
  | (n, b) :: r, m => by
    simp only [putH, hget, hget_hset]
    by_cases e : n = m
    · subst e; simp [beq_self]
    · simp only [beq_ne e, if_neg (Ne.symm e)]
      exact hget_putH h r m
end Go.Eng
