/- A part of the evaluator of the program and of its proof: texts E30, E31, E32, E33, E34. -/
import Derived.Test.YtmokabokdhhdiaaGreatEngE
import Derived.BigCall
import Derived.TacticsIn
import Derived.OrdersIn
set_option linter.unusedVariables false
set_option linter.unusedSimpArgs false
namespace Go.Eng
open Go.RowKit

/-! ### Names named anew -/

theorem renL_nil (g : Nat → Option Nat) : renL g [] = [] := by simp [renL]
theorem renL_cons (g : Nat → Option Nat) (v : AV) (r : List AV) : renL g (v :: r) = renV g v :: renL g r := by simp [renL]
theorem renL_len (g : Nat → Option Nat) : ∀ l : List AV, (renL g l).length = l.length
  | [] => by simp [renL_nil]
  | v :: r => by simp [renL_cons, renL_len g r]
theorem renV_top (g : Nat → Option Nat) : renV g .top = .top := by simp [renV]
theorem getT_renL (g : Nat → Option Nat) : ∀ (l : List AV) (j : Nat), getT (renL g l) j = renV g (getT l j)
  | [], j => by simp [renL_nil, getT, renV_top]
  | v :: r, 0 => by simp [renL_cons, getT]
  | v :: r, j + 1 => by simp [renL_cons, getT, getT_renL g r j]
theorem encLeaf_ren (g : Nat → Option Nat) (c : Cd) (x : c.T) : renV g (encLeaf c x) = encLeaf c x := by
  cases c <;> simp [encLeaf, renV]
theorem encH_ren (g : Nat → Option Nat) : ∀ (cs : List Cd) (r : HL cs), renL g (encH cs r) = encH cs r
  | [], _ => by simp [encH, renL_nil]
  | c :: cs, (x, r) => by simp [encH, renL_cons, encLeaf_ren, encH_ren g cs r]
theorem enc_ren (g : Nat → Option Nat) (c : Cd) (x : c.T) : renL g (enc c x) = enc c x := by
  cases c with
  | st s => exact encH_ren g _ _
  | _ => simp [enc, renL_cons, renL_nil, encLeaf_ren]
theorem encT_ren (g : Nat → Option Nat) (c : Cd) (x : c.T) (j : Nat) : renV g (getT (enc c x) j) = getT (enc c x) j := by
  rw [← getT_renL, enc_ren]

section
variable {w : World} {G G' : Gh} {Z : Nat → Prop}

theorem VR.ren (g : Nat → Option Nat) (hg : ∀ n m, g n = some m → ∀ ni, G n = some ni → G' m = some ni) {x : AV} {v : Value} (h : VR w G Z x v) : VR w G' Z (renV g x) v := by
  induction h with
  | top v => rw [renV_top]; exact .top v
  | known v => simp only [renV]; exact .known v
  | bool b => simp only [renV]; exact .bool b
  | int k n h => simp only [renV]; exact .int k n h
  | str l => simp only [renV]; exact .str l
  | nilp => simp only [renV]; exact .nilp
  | ptr nm off ni b o h1 h2 =>
    simp only [renV]; split
    · rename_i m hm; exact .ptr m off ni b o (hg nm m hm ni h1) h2
    · exact .top _
  | eptr nm i sub ni b o h1 h2 h3 =>
    simp only [renV]; split
    · rename_i m hm; exact .eptr m i sub ni b o (hg nm m hm ni h1) h2 h3
    · exact .top _
  | iptr c x sub b o vs h1 h2 _ ih => simp only [renV]; exact .iptr c x sub b o vs h1 h2 fun j hj => by rw [← encT_ren g]; exact ih j hj
  | nils => simp only [renV]; exact .nils
  | cap0 c a => simp only [renV]; exact .cap0 c a
  | imm c l b o cap vs h1 h2 h3 _ ih => simp only [renV]; exact .imm c l b o cap vs h1 h2 h3 fun i hi j hj => by rw [← encT_ren g]; exact ih i hi j hj
  | imm0 c a cap => simp only [renV]; exact .imm0 c a cap
  | clip c l b o vs h1 h3 _ ih => simp only [renV]; exact .clip c l b o vs h1 h3 fun i hi j hj => by rw [← encT_ren g]; exact ih i hi j hj
  | clip0 c a => simp only [renV]; exact .clip0 c a
  | own nm c off len tl ni b o cap e S h1 h2 h3 h4 h5 h6 h7 h8 =>
    simp only [renV]; split
    · rename_i m hm; exact .own m c off len tl ni b o cap e S (hg nm m hm ni h1) h2 h3 h4 h5 h6 h7 h8
    · exact .top _
  | own0 nm c off tl ni a h1 h2 h3 h4 =>
    simp only [renV]; split
    · rename_i m hm; exact .own0 m c off tl ni a (hg nm m hm ni h1) h2 h3 h4
    · exact .top _
  | xown nm c off len ni b o cap h1 h2 h3 =>
    simp only [renV]; split
    · rename_i m hm; exact .xown m c off len ni b o cap (hg nm m hm ni h1) h2 h3
    · exact .top _
  | xown0 nm c off a =>
    simp only [renV]; split
    · exact .xown0 _ c off a
    · exact .top _
  | fn f cs vs h1 _ ih => simp only [renV]; exact .fn f _ vs (by rw [renL_len]; exact h1) fun j hj => by rw [getT_renL]; exact ih j (by rw [renL_len] at hj; exact hj)
  | nilf => simp only [renV]; exact .nilf
  | iface t v u _ ih => simp only [renV]; exact .iface t _ u ih
  | nili => simp only [renV]; exact .nili
  | agg cs vs h1 _ h3 ih => simp only [renV]; exact .agg _ vs (by rw [renL_len]; exact h1) (fun j hj => by rw [getT_renL]; exact ih j (by rw [renL_len] at hj; exact hj)) fun j hj => h3 j (by rw [renL_len] at hj; exact hj)
  | tup cs vs h1 _ ih => simp only [renV]; exact .tup _ vs (by rw [renL_len]; exact h1) fun j hj => by rw [getT_renL]; exact ih j (by rw [renL_len] at hj; exact hj)

/-- Typed data name nothing. -/
theorem VR.encG {c : Cd} {x : c.T} {j : Nat} {v : Value} (h : VR w G Z (getT (enc c x) j) v) : VR w G' Z (getT (enc c x) j) v := by
  have := h.ren (G' := G') (fun _ => none) (fun _ _ h => by cases h)
  rwa [encT_ren] at this
theorem CR.ren (g : Nat → Option Nat) (hg : ∀ n m, g n = some m → ∀ ni, G n = some ni → G' m = some ni) {b o : Nat} {cs : List AV} {vs : Nat → Value} (h : CR w G Z b o cs vs) : CR w G' Z b o (renL g cs) vs :=
  ⟨fun j hj => h.cell j (by rwa [renL_len] at hj), fun j hj => h.one j (by rwa [renL_len] at hj), fun j hj => by rw [getT_renL]; exact (h.vr j (by rwa [renL_len] at hj)).ren g hg⟩
theorem RR.encG {b o : Nat} {c : Cd} {l : List c.T} {vs : Nat → Nat → Value} (h : RR w G Z b o c l vs) : RR w G' Z b o c l vs :=
  ⟨h.cell, fun i hi j hj => (h.vr i hi j hj).encG⟩
theorem BR.ren (g : Nat → Option Nat) (hg : ∀ n m, g n = some m → ∀ ni, G n = some ni → G' m = some ni) {ni : NI} {bl : Blk} (h : BR w G Z ni bl) : BR w G' Z ni (renB g bl) := by
  cases bl with
  | exp cs =>
    obtain ⟨b, o, vs, h1, h2, h3, h4, h5⟩ := h
    exact ⟨b, o, vs, h1, by rw [renL_len]; exact h2, h3.ren g hg, h4, h5⟩
  | rexp cs =>
    obtain ⟨b, o, vs, h1, h2, h3, h5⟩ := h
    exact ⟨b, o, vs, h1, by rw [renL_len]; exact h2, h3.ren g hg, h5⟩
  | row c l =>
    obtain ⟨h1, h2, h3⟩ := h
    exact ⟨h1, h2, h3.imp id fun ⟨b, o, vs, h4, h5, h6⟩ => ⟨b, o, vs, h4, h5.encG, h6⟩⟩
  | lrow c l =>
    obtain ⟨h1, h2, h3⟩ := h
    exact ⟨h1, h2, h3.imp id fun ⟨b, o, vs, h4, h5, h6⟩ => ⟨b, o, vs, h4, h5.encG, h6⟩⟩
  | frz c l =>
    obtain ⟨h1, h2, h3⟩ := h
    exact ⟨h1, h2, h3.imp id fun ⟨b, o, vs, h4, h5, h6⟩ => ⟨b, o, vs, h4, h5.encG, h6⟩⟩
theorem BR.lend {ni : NI} {bl : Blk} (h : BR w G Z ni bl) : BR w G Z ni (lendB bl) := by
  cases bl with
  | exp cs =>
    obtain ⟨b, o, vs, h1, h2, h3, h4, h5⟩ := h
    exact ⟨b, o, vs, h1, h2, h3, h5⟩
  | row c l =>
    obtain ⟨h1, h2, h3⟩ := h
    exact ⟨h1, h2, h3.imp id fun ⟨b, o, vs, h4, h5, h6, h7⟩ => ⟨b, o, vs, h4, h5, h7⟩⟩
  | rexp cs => exact h
  | lrow c l => exact h
  | frz c l => exact h
theorem wr_lend (bl : Blk) : wr (lendB bl) = false := by cases bl <;> rfl
theorem wr_ren (g : Nat → Option Nat) (bl : Blk) : wr (renB g bl) = wr bl := by cases bl <;> rfl

theorem hget_lendH (h : AH) (m : Nat) : hget (lendH h) m = (hget h m).map lendB := by
  induction h with
  | nil => rfl
  | cons p r ih =>
    obtain ⟨k, b⟩ := p
    simp only [lendH, hget]
    split
    · rfl
    · exact ih
theorem hget_highH (g : Nat → Option Nat) (h : AH) : ∀ (ns : List Nat) (i m : Nat), hget (highH g h i ns) m = if i ≤ m then (ns[m - i]?).bind fun n => (hget h n).map (renB g) else none
  | [], i, m => by simp [highH, hget]
  | n :: r, i, m => by
    have ih := hget_highH g h r (i + 1) m
    simp only [highH]
    by_cases e : i = m
    · subst e
      rw [if_neg (by omega)] at ih
      split
      · rename_i b hb; simp [hget, beq_self, hb]
      · rename_i hb; rw [ih]; simp [hb]
    · have hh : hget (highH g h (i + 1) r) m = if i ≤ m then ((n :: r)[m - i]?).bind (fun n => (hget h n).map (renB g)) else none := by
        rw [ih]
        by_cases hm : i ≤ m
        · have e2 : m - i = (m - (i + 1)) + 1 := by omega
          rw [if_pos hm, if_pos (by omega), e2, List.getElem?_cons_succ]
        · rw [if_neg hm, if_neg (by omega)]
      split
      · simp only [hget, beq_ne e]; exact hh
      · exact hh
theorem hget_lowH (g : Nat → Option Nat) (base : Nat) (h : AH) (m : Nat) : hget (lowH g base h) m = if m < base then (hget h m).map (renB g) else none := by
  induction h with
  | nil => simp [lowH, hget]
  | cons p r ih =>
    obtain ⟨k, b⟩ := p
    simp only [lowH]
    split
    · rename_i hk
      have hk' : k < base := by simpa using hk
      simp only [hget]
      by_cases e : k = m
      · subst e; simp [beq_self, hk']
      · simp only [beq_ne e]; exact ih
    · rename_i hk
      have hk' : ¬ k < base := fun hh => by
        have : Nat.blt k base = true := by simpa [Nat.blt_eq] using hh
        rw [this] at hk; cases hk
      rw [ih]
      by_cases e : k = m
      · subst e; simp [hk']
      · simp only [hget, beq_ne e]
theorem hget_app (h k : AH) (m : Nat) : hget (h ++ k) m = match hget h m with | some b => some b | none => hget k m := by
  induction h with
  | nil => rfl
  | cons p r ih =>
    obtain ⟨n, b⟩ := p
    simp only [List.cons_append, hget]
    split
    · rfl
    · exact ih
theorem posN_some {n : Nat} : ∀ {ns : List Nat} {i k : Nat}, posN n ns i = some k → i ≤ k ∧ ns[k - i]? = some n
  | [], _, _, h => by simp [posN] at h
  | m :: r, i, k, h => by
    simp only [posN] at h
    split at h
    · rename_i hb
      cases h
      have : n = m := by simpa using hb
      exact ⟨Nat.le_refl _, by simp [this]⟩
    · obtain ⟨h1, h2⟩ := posN_some h
      refine ⟨by omega, ?_⟩
      have e2 : k - i = (k - (i + 1)) + 1 := by omega
      rw [e2, List.getElem?_cons_succ]
      exact h2
/-- Names, each once, none below base. -/
theorem reach_nodup (h : AH) (base : Nat) : ∀ (f : Nat) (q seen : List Nat), seen.Nodup → (∀ n ∈ seen, base ≤ n) → (reach h base f q seen).Nodup ∧ ∀ n ∈ reach h base f q seen, base ≤ n
  | 0, q, seen, h1, h2 => by simp only [reach]; exact ⟨h1, h2⟩
  | f + 1, [], seen, h1, h2 => by simp only [reach]; exact ⟨h1, h2⟩
  | f + 1, n :: q, seen, h1, h2 => by
    simp only [reach]
    split
    · exact reach_nodup h base f q seen h1 h2
    · rename_i hb
      split
      · exact reach_nodup h base f q seen h1 h2
      · rename_i hm
        have hn : n ∉ seen := fun hh => by rw [memN_iff.2 hh] at hm; cases hm
        refine reach_nodup h base f _ _ ?_ ?_
        · rw [List.nodup_append]
          refine ⟨h1, by simp, ?_⟩
          rintro a ha b hb rfl
          simp at hb
          exact hn (hb ▸ ha)
        · intro m hm'
          rw [List.mem_append] at hm'
          rcases hm' with hm' | hm'
          · exact h2 m hm'
          · simp at hm'
            subst hm'
            exact Nat.le_of_not_lt fun hh => by
              have : Nat.blt m base = true := by simpa [Nat.blt_eq] using hh
              rw [this] at hb; cases hb
end
end Go.Eng

set_option linter.unusedVariables false
set_option linter.unusedSimpArgs false
namespace Go.Eng
open Go.RowKit

/-! ### What a call that stands alone hands back -/

structure IsoR (w : World) (Z : Nat → Prop) (v : AV) (h' : AH) (u : Value) (w' : World) (G' : Gh) (Z' : Nat → Prop) : Prop where
  ext : Ext (fun _ _ => False) w w'
  zm : ∀ b, Z b → Z' b
  zn : ∀ b, Z' b → Z b ∨ w.heap.size ≤ b
  own : ∀ nm bl ni b o, hget h' nm = some bl → wr bl = true → G' nm = some ni → ni.blk = some (b, o) → w.heap.size ≤ b
  hr : HR w' G' Z' h'
  vr : VR w' G' Z' v u

/-- Blocks of cells that are left behind are never written again. -/
def zx (h : AH) (G : Gh) (Z : Nat → Prop) (b : Nat) : Prop := Z b ∨ ∃ nm cs ni o, hget h nm = some (.exp cs) ∧ G nm = some ni ∧ ni.blk = some (b, o)

theorem VR.zmono {w : World} {G : Gh} {Z Z' : Nat → Prop} {x : AV} {v : Value} (h : VR w G Z x v) (hz : ∀ b, Z b → Z' b) : VR w G Z' x v :=
  h.mono (Wr := fun _ _ => False) (.refl _ _) (fun _ _ _ h => h) (fun _ _ h => h) hz

structure ExpInv (h : AH) (ns : List Nat) (bs : List Blk) : Prop where
  len : ns.length = bs.length
  nd : ns.Nodup
  row : ∀ k n : Nat, ns[k]? = some n → ∃ c l, hget h n = some (.row c l) ∧ bs[k]? = some (.row c l)

theorem ExpInv.nil (h : AH) : ExpInv h [] [] := ⟨rfl, by simp, fun k n hk => by simp at hk⟩
theorem ExpInv.snoc {h : AH} {ns : List Nat} {bs : List Blk} (hi : ExpInv h ns bs) {n : Nat} {c : Cd} {l : List c.T} (hg : hget h n = some (.row c l)) (hn : memN n ns = false) : ExpInv h (ns ++ [n]) (bs ++ [.row c l]) := by
  have hn' : n ∉ ns := fun hh => by rw [memN_iff.2 hh] at hn; cases hn
  refine ⟨by simp [hi.len], ?_, ?_⟩
  · rw [List.nodup_append]
    refine ⟨hi.nd, by simp, ?_⟩
    rintro a ha b hb rfl
    simp at hb
    exact hn' (hb ▸ ha)
  · intro k m hk
    rw [List.getElem?_append] at hk ⊢
    rw [← hi.len]
    split at hk
    · rename_i hlt
      rw [if_pos hlt]
      exact hi.row k m hk
    · rename_i hlt
      rw [if_neg hlt]
      have : k - ns.length = 0 := by
        rcases Nat.eq_zero_or_pos (k - ns.length) with e | e
        · exact e
        · rw [List.getElem?_eq_none (by simp; omega)] at hk; cases hk
      rw [this] at hk ⊢
      simp at hk
      subst hk
      exact ⟨c, l, hg, rfl⟩

section
variable {w : World} {G : Gh} {Z : Nat → Prop} {h : AH} {nb : Nat}

theorem VR.noname {G' : Gh} {Z' : Nat → Prop} {x : AV} {v : Value} (h : VR w G Z x v) (hx : renV (fun _ => none) x = x) (hz : ∀ b, Z b → Z' b) : VR w G' Z' x v := by
  have := (h.ren (G' := G') (fun _ => none) (fun _ _ h => by cases h)).zmono hz
  rwa [hx] at this

def ExpV (w : World) (G : Gh) (Z : Nat → Prop) (h : AH) (nb : Nat) (v : AV) : Prop :=
  ∀ ns bs v' ns' bs', expV h nb v ns bs = some (v', ns', bs') → ExpInv h ns bs → ExpInv h ns' bs' ∧ (∃ t, ns' = ns ++ t) ∧
    ∀ u G2, VR w G Z v u → (∀ k n : Nat, ns'[k]? = some n → G2 (nb + k) = G n) → VR w G2 (zx h G Z) v' u
def ExpL (w : World) (G : Gh) (Z : Nat → Prop) (h : AH) (nb : Nat) (vs : List AV) : Prop :=
  ∀ ns bs vs' ns' bs', expL h nb vs ns bs = some (vs', ns', bs') → ExpInv h ns bs → ExpInv h ns' bs' ∧ (∃ t, ns' = ns ++ t) ∧ vs'.length = vs.length ∧
    ∀ (us : Nat → Value) G2, (∀ j, j < vs.length → VR w G Z (getT vs j) (us j)) → (∀ k n : Nat, ns'[k]? = some n → G2 (nb + k) = G n) → ∀ j, j < vs.length → VR w G2 (zx h G Z) (getT vs' j) (us j)

theorem expV_own (hr : HR w G Z h) (nm : Nat) (c : Cd) (off len : Nat) (tl : Bool) : ExpV w G Z h nb (.own nm c off len tl) := by
  intro ns bs v' ns' bs' he hi
  simp only [expV] at he
  split at he
  · rename_i c' l hg
    split at he
    · cases he
    · rename_i hm
      cases he
      refine ⟨hi.snoc hg hm, ⟨_, rfl⟩, ?_⟩
      intro u G2 hv hG
      have hk : G2 (nb + ns.length) = G nm := hG ns.length nm (by simp)
      cases hv with
      | own _ _ _ _ _ ni b o cap e S h1 h2 h3 h4 h5 h6 h7 h8 => exact .own _ c off len tl ni b o cap e S (by rw [hk]; exact h1) h2 h3 h4 h5 h6 h7 h8
      | own0 _ _ _ _ ni a h1 h2 h3 h4 => exact .own0 _ c off tl ni a (by rw [hk]; exact h1) h2 h3 h4
  · rename_i c' l hg
    split at he
    · rename_i l' hl
      cases he
      refine ⟨hi, ⟨[], by simp⟩, ?_⟩
      intro u G2 hv hG
      have hs : SC w G Z false c ((l'.drop off).take len) u := own_SC hr (by unfold rowL; rw [hg]; exact hl) hv
      exact hs.imm.noname (by simp [renV]) fun b hz => .inl hz
    · cases he
  · cases he
theorem expV_xown (hr : HR w G Z h) (nm : Nat) (c : Cd) (off len : Nat) : ExpV w G Z h nb (.xown nm c off len) := by
  intro ns bs v' ns' bs' he hi
  simp only [expV] at he
  split at he
  · rename_i cs hg
    split at he
    · rename_i l hl
      cases he
      refine ⟨hi, ⟨[], by simp⟩, ?_⟩
      intro u G2 hv hG
      have hd : decSl h false c (.xown nm c off len) = some l := by
        simp only [decSl]
        split
        · rw [hg]; exact hl
        · rename_i hne _; exact absurd rfl hne
      have hx : (∃ ni b o cap, G nm = some ni ∧ ni.blk = some (b, o) ∧ u = .slice (some (ad b (o + off * csz c))) len cap) ∨ len = 0 := by
        cases hv with
        | xown _ _ _ _ ni b o cap h1 h2 h3 => exact .inl ⟨ni, b, o, cap, h1, h2, rfl⟩
        | xown0 _ _ _ a => exact .inr rfl
      obtain ⟨A, cap, h1, h2, h3⟩ := decSl_ok hd hv hr
      have hs : SC w G (zx h G Z) false c l u := by
        refine ⟨A, cap, h1, h2, ?_⟩
        rcases hx with ⟨ni, b, o, cap', g1, g2, g3⟩ | rfl
        · refine h3.imp id ?_
          rintro ⟨b', o', vs, rfl, r1, _⟩
          refine ⟨b', o', vs, rfl, ⟨r1.cell, fun i hi j hj => (r1.vr i hi j hj).zmono fun b hz => .inl hz⟩, fun _ => ?_⟩
          rw [g3] at h1
          have : b = b' := by injection h1 with e1 e2 e3; injection e1 with e1; injection e1
          subst this
          exact .inr ⟨nm, cs, ni, o, hg, g1, g2⟩
        · simp only [decN0] at hl
          cases hl
          exact .inl rfl
      exact hs.imm.noname (by simp [renV]) fun b hz => hz
    · cases he
  · cases he

theorem expV_leaf {v : AV} (he : ∀ ns bs, expV h nb v ns bs = some (v, ns, bs)) (hx : renV (fun _ => none) v = v) : ExpV w G Z h nb v := by
  intro ns bs v' ns' bs' h1 hi
  rw [he] at h1
  cases h1
  exact ⟨hi, ⟨[], by simp⟩, fun u G2 hv hG => hv.noname hx fun b hz => .inl hz⟩
theorem expV_none {v : AV} (he : ∀ ns bs, expV h nb v ns bs = none) : ExpV w G Z h nb v := by
  intro ns bs v' ns' bs' h1 hi
  rw [he] at h1
  cases h1

theorem expL_nil : ExpL w G Z h nb [] := by
  intro ns bs vs' ns' bs' he hi
  simp only [expL] at he
  cases he
  exact ⟨hi, ⟨[], by simp⟩, rfl, fun us G2 hv hG j hj => by simp at hj⟩
theorem expL_cons {v : AV} {r : List AV} (h1 : ExpV w G Z h nb v) (h2 : ExpL w G Z h nb r) : ExpL w G Z h nb (v :: r) := by
  intro ns bs vs' ns' bs' he hi
  simp only [expL] at he
  split at he
  · rename_i v1 ns1 bs1 e1
    split at he
    · rename_i r2 ns2 bs2 e2
      cases he
      obtain ⟨i1, ⟨t1, rfl⟩, f1⟩ := h1 _ _ _ _ _ e1 hi
      obtain ⟨i2, ⟨t2, rfl⟩, hl, f2⟩ := h2 _ _ _ _ _ e2 i1
      refine ⟨i2, ⟨t1 ++ t2, by simp⟩, by simp [hl], fun us G2 hv hG j hj => ?_⟩
      cases j with
      | zero => exact f1 (us 0) G2 (hv 0 (by simp)) fun k n hk => hG k n (by rw [List.getElem?_append_left (List.getElem?_eq_some_iff.1 hk).1]; exact hk)
      | succ j => exact f2 (fun j => us (j + 1)) G2 (fun j hj => hv (j + 1) (by simpa using hj)) hG j (by simpa using hj)
    · cases he
  · cases he
theorem expV_agg {cs : List AV} (hl : ExpL w G Z h nb cs) : ExpV w G Z h nb (.agg cs) := by
  intro ns bs v' ns' bs' he hi
  simp only [expV] at he
  split at he
  · rename_i e1
    cases he
    obtain ⟨i1, i2, i3, i4⟩ := hl _ _ _ _ _ e1 hi
    refine ⟨i1, i2, fun u G2 hv hG => ?_⟩
    cases hv with
    | agg _ vs a1 a2 a3 => exact .agg _ vs (by rw [i3]; exact a1) (fun j hj => i4 (fun j => vs.getD j undef) G2 a2 hG j (by rwa [i3] at hj)) fun j hj => a3 j (by rwa [i3] at hj)
  · cases he
theorem expV_tup {cs : List AV} (hl : ExpL w G Z h nb cs) : ExpV w G Z h nb (.tup cs) := by
  intro ns bs v' ns' bs' he hi
  simp only [expV] at he
  split at he
  · rename_i e1
    cases he
    obtain ⟨i1, i2, i3, i4⟩ := hl _ _ _ _ _ e1 hi
    refine ⟨i1, i2, fun u G2 hv hG => ?_⟩
    cases hv with
    | tup _ vs a1 a2 => exact .tup _ vs (by rw [i3]; exact a1) (fun j hj => i4 (fun j => vs.getD j undef) G2 a2 hG j (by rwa [i3] at hj))
  · cases he
theorem expV_iface {t : TypeId} {v : AV} (hv : ExpV w G Z h nb v) : ExpV w G Z h nb (.iface t v) := by
  intro ns bs v' ns' bs' he hi
  simp only [expV] at he
  split at he
  · rename_i e1
    cases he
    obtain ⟨i1, i2, i4⟩ := hv _ _ _ _ _ e1 hi
    refine ⟨i1, i2, fun u G2 hv hG => ?_⟩
    cases hv with
    | iface _ _ u hu => exact .iface _ _ _ (i4 u G2 hu hG)
  · cases he

mutual
theorem expV_ok (hr : HR w G Z h) : ∀ v : AV, ExpV w G Z h nb v
  | .top => expV_leaf (fun _ _ => by simp [expV]) (by simp [renV])
  | .known _ => expV_leaf (fun _ _ => by simp [expV]) (by simp [renV])
  | .bool _ => expV_leaf (fun _ _ => by simp [expV]) (by simp [renV])
  | .int _ _ => expV_leaf (fun _ _ => by simp [expV]) (by simp [renV])
  | .str _ => expV_leaf (fun _ _ => by simp [expV]) (by simp [renV])
  | .nilp => expV_leaf (fun _ _ => by simp [expV]) (by simp [renV])
  | .ptr _ _ => expV_none fun _ _ => by simp [expV]
  | .eptr _ _ _ => expV_none fun _ _ => by simp [expV]
  | .iptr _ _ _ => expV_leaf (fun _ _ => by simp [expV]) (by simp [renV])
  | .nils => expV_leaf (fun _ _ => by simp [expV]) (by simp [renV])
  | .cap0 _ => expV_leaf (fun _ _ => by simp [expV]) (by simp [renV])
  | .imm _ _ => expV_leaf (fun _ _ => by simp [expV]) (by simp [renV])
  | .clip _ _ => expV_leaf (fun _ _ => by simp [expV]) (by simp [renV])
  | .own nm c off len tl => expV_own hr nm c off len tl
  | .xown nm c off len => expV_xown hr nm c off len
  | .fn f [] => expV_leaf (fun _ _ => by simp [expV]) (by simp [renV, renL])
  | .fn f (_ :: _) => expV_none fun _ _ => by simp [expV]
  | .nilf => expV_leaf (fun _ _ => by simp [expV]) (by simp [renV])
  | .iface _ v => expV_iface (expV_ok hr v)
  | .nili => expV_leaf (fun _ _ => by simp [expV]) (by simp [renV])
  | .agg cs => expV_agg (expL_ok hr cs)
  | .tup cs => expV_tup (expL_ok hr cs)
theorem expL_ok (hr : HR w G Z h) : ∀ vs : List AV, ExpL w G Z h nb vs
  | [] => expL_nil
  | v :: r => expL_cons (expV_ok hr v) (expL_ok hr r)
end

theorem hget_hsetAll : ∀ (bs : List Blk) (h : AH) (nb m : Nat), hget (hsetAll h nb bs) m = if nb ≤ m then (match bs[m - nb]? with | some b => some b | none => hget h m) else hget h m
  | [], h, nb, m => by simp [hsetAll]
  | b :: r, h, nb, m => by
    simp only [hsetAll, hget_hsetAll r, hget_hset]
    by_cases e : m = nb
    · subst e; rw [if_neg (by omega)]; simp
    · rw [if_neg e]
      by_cases hm : nb ≤ m
      · have e2 : m - nb = (m - (nb + 1)) + 1 := by omega
        rw [if_pos hm, if_pos (by omega), e2, List.getElem?_cons_succ]
      · rw [if_neg hm, if_neg (by omega)]

theorem BR.zmono {ni : NI} {bl : Blk} {Z' : Nat → Prop} (h : BR w G Z ni bl) (hz : ∀ b, Z b → Z' b) : BR w G Z' ni bl :=
  h.mono (Wr := fun _ _ => False) (.refl _ _) (fun _ _ _ h => h) (fun _ _ h => h) hz (fun _ _ _ _ h => h)

/-- What such a call hands back is new, or never written again. -/
theorem isoExp_ok {v v' : AV} {ns : List Nat} {bs : List Blk} {h' : AH} {u : Value} {w' : World} {G' : Gh} {Z' : Nat → Prop} (hi : IsoR w Z v h' u w' G' Z') (he : expV h' nb v [] [] = some (v', ns, bs)) (hlt : bs.length < 64)
    (hr : HR w G Z h) (hG : ∀ n, nb ≤ n → n < nb + 64 → G n = none) :
    ∃ G2 Z2, SR (fun n => nb ≤ n ∧ n < nb + 64) w G Z h w' G2 Z2 (hsetAll h nb bs) ∧ VR w' G2 Z2 v' u := by
  obtain ⟨hv, -, hf⟩ := expV_ok (nb := nb) hi.hr v _ _ _ _ _ he (ExpInv.nil h')
  let G2 : Gh := fun m => if nb ≤ m ∧ m < nb + bs.length then (ns[m - nb]?).bind G' else G m
  have hG2n : ∀ k n : Nat, ns[k]? = some n → G2 (nb + k) = G' n := by
    intro k n hk
    have hk' : k < ns.length := (List.getElem?_eq_some_iff.1 hk).1
    have hl := hv.len
    have e2 : nb + k - nb = k := by omega
    show (if _ then _ else _) = _
    rw [if_pos ⟨by omega, by omega⟩, e2, hk]
    rfl
  have hG2o : ∀ m, ¬ (nb ≤ m ∧ m < nb + bs.length) → G2 m = G m := fun m hm => if_neg hm
  have hgm : ∀ nm ni, G nm = some ni → G2 nm = some ni := by
    intro nm ni hn
    rw [hG2o]
    · exact hn
    · rintro ⟨h1, h2⟩
      rw [hG nm h1 (by omega)] at hn
      cases hn
  have hin : ∀ m, nb ≤ m ∧ m < nb + bs.length → ∃ n c l, ns[m - nb]? = some n ∧ hget h' n = some (.row c l) ∧ bs[m - nb]? = some (.row c l) ∧ G2 m = G' n := by
    rintro m ⟨h1, h2⟩
    have hl := hv.len
    have hlt : m - nb < ns.length := by omega
    obtain ⟨c, l, g1, g2⟩ := hv.row (m - nb) ns[m - nb] (List.getElem?_eq_getElem hlt)
    refine ⟨ns[m - nb], c, l, List.getElem?_eq_getElem hlt, g1, g2, ?_⟩
    have := hG2n (m - nb) _ (List.getElem?_eq_getElem hlt)
    rwa [show nb + (m - nb) = m by omega] at this
  have hget' : ∀ m bl, hget (hsetAll h nb bs) m = some bl → (nb ≤ m ∧ m < nb + bs.length ∧ bs[m - nb]? = some bl) ∨ (¬ (nb ≤ m ∧ m < nb + bs.length) ∧ hget h m = some bl) := by
    intro m bl hm
    rw [hget_hsetAll] at hm
    by_cases h1 : nb ≤ m
    · rw [if_pos h1] at hm
      by_cases h2 : m - nb < bs.length
      · rw [List.getElem?_eq_getElem h2] at hm
        exact .inl ⟨h1, by omega, by rw [List.getElem?_eq_getElem h2]; exact hm⟩
      · rw [List.getElem?_eq_none (by omega)] at hm
        exact .inr ⟨by omega, hm⟩
    · rw [if_neg h1] at hm
      exact .inr ⟨by omega, hm⟩
  have hnewb : ∀ m ni b o, nb ≤ m ∧ m < nb + bs.length → G2 m = some ni → ni.blk = some (b, o) → w.heap.size ≤ b := by
    intro m ni b o hm h1 h2
    obtain ⟨n, c, l, e1, e2, e3, e4⟩ := hin m hm
    rw [e4] at h1
    exact hi.own n _ ni b o e2 rfl h1 h2
  have hold : ∀ m bl ni b o, hget h m = some bl → G m = some ni → ni.blk = some (b, o) → b < w.heap.size := by
    intro m bl ni b o h1 h2 h3
    obtain ⟨x, q1, q2⟩ := hr.blk m bl h1
    rw [h2] at q1; cases q1
    exact q2.lt h3
  have hzb : ∀ b, zx h' G' Z' b → Z b ∨ w.heap.size ≤ b := by
    rintro b (hz | ⟨nm, cs, ni, o, h1, h2, h3⟩)
    · exact hi.zn b hz
    · exact .inr (hi.own nm _ ni b o h1 rfl h2 h3)
  refine ⟨G2, zx h' G' Z', ⟨hi.ext.mono fun _ _ _ h => h.elim, hgm, ?_, fun b hz => .inl (hi.zm b hz), ?_, ?_, ?_, ⟨?_, ?_, ?_, ?_⟩⟩, hf u G2 hi.vr hG2n⟩
  · intro nm ni hn
    by_cases hm : nb ≤ nm ∧ nm < nb + bs.length
    · exact .inr ⟨hm.1, by omega⟩
    · rw [hG2o nm hm] at hn; exact .inl hn
  · intro b hb
    rcases hzb b hb with h1 | h1
    · exact .inl h1
    · exact .inr (.inl h1)
  · intro nm bl ni b o h1 h2 h3
    rcases hget' nm bl h1 with ⟨q1, q2, q3⟩ | ⟨q1, q2⟩
    · exact .inl (hnewb nm ni b o ⟨q1, q2⟩ h2 h3)
    · rw [hG2o nm q1] at h2
      exact .inr ⟨nm, bl, ni, o, q2, h2, h3, id⟩
  · intro nm bl h1
    rcases hget' nm bl h1 with ⟨q1, q2, q3⟩ | ⟨q1, q2⟩
    · exact .inr ⟨q1, by omega⟩
    · exact .inl ⟨bl, q2⟩
  · intro nm bl h1
    rcases hget' nm bl h1 with ⟨q1, q2, q3⟩ | ⟨q1, q2⟩
    · obtain ⟨n, c, l, e1, e2, e3, e4⟩ := hin nm ⟨q1, q2⟩
      rw [e3] at q3; cases q3
      obtain ⟨ni, r1, r2⟩ := hi.hr.blk n _ e2
      have r3 := r2.zmono (Z' := zx h' G' Z') fun b hz => .inl hz
      obtain ⟨s1, s2, s3⟩ := r3
      exact ⟨ni, by rw [e4]; exact r1, s1, s2, s3.imp id fun ⟨b, o, vs, t1, t2, t3⟩ => ⟨b, o, vs, t1, t2.encG, t3⟩⟩
    · obtain ⟨ni, r1, r2⟩ := hr.blk nm bl q2
      exact ⟨ni, hgm _ _ r1, r2.mono hi.ext (fun _ _ _ h => h) hgm (fun b hz => .inl (hi.zm b hz)) fun _ _ _ _ h => h⟩
  · intro n m bn bm ni mi b o o' h1 h2 h3 h4 h5 h6 h7 h8
    rcases hget' n bn h1 with ⟨q1, q2, q3⟩ | ⟨q1, q2⟩ <;> rcases hget' m bm h3 with ⟨p1, p2, p3⟩ | ⟨p1, p2⟩
    · obtain ⟨n', c, l, e1, e2, e3, e4⟩ := hin n ⟨q1, q2⟩
      obtain ⟨m', c', l', f1, f2, f3, f4⟩ := hin m ⟨p1, p2⟩
      rw [e4] at h5
      rw [f4] at h6
      have hne : n' ≠ m' := by
        rintro rfl
        have := (List.getElem?_inj (by rw [hv.len]; omega) hv.nd).1 (e1.trans f1.symm)
        omega
      exact hi.hr.sep n' m' _ _ ni mi b o o' e2 rfl f2 hne h5 h6 h7 h8
    · have := hnewb n ni b o ⟨q1, q2⟩ h5 h7
      rw [hG2o m p1] at h6
      have := hold m bm mi b o' p2 h6 h8
      omega
    · have := hnewb m mi b o' ⟨p1, p2⟩ h6 h8
      rw [hG2o n q1] at h5
      have := hold n bn ni b o q2 h5 h7
      omega
    · rw [hG2o n q1] at h5
      rw [hG2o m p1] at h6
      exact hr.sep n m bn bm ni mi b o o' q2 h2 p2 h4 h5 h6 h7 h8
  · intro n bn ni b o h1 h2 h3 h4 h5
    rcases hget' n bn h1 with ⟨q1, q2, q3⟩ | ⟨q1, q2⟩
    · obtain ⟨n', c, l, e1, e2, e3, e4⟩ := hin n ⟨q1, q2⟩
      rw [e4] at h3
      rcases h5 with h5 | ⟨nm, cs, xi, o', g1, g2, g3⟩
      · exact hi.hr.zsep n' _ ni b o e2 rfl h3 h4 h5
      · have hne : n' ≠ nm := by rintro rfl; rw [e2] at g1; cases g1
        exact hi.hr.sep n' nm _ _ ni xi b o o' e2 rfl g1 hne h3 g2 h4 g3
    · rw [hG2o n q1] at h3
      rcases hzb b h5 with h6 | h6
      · exact hr.zsep n bn ni b o q2 h2 h3 h4 h6
      · have := hold n bn ni b o q2 h3 h4
        omega
  · rintro b (hz | ⟨nm, cs, ni, o, h1, h2, h3⟩)
    · exact hi.hr.zlt b hz
    · obtain ⟨x, q1, q2⟩ := hi.hr.blk nm _ h1
      rw [h2] at q1; cases q1
      exact q2.lt h3
end
end Go.Eng

set_option linter.unusedVariables false
set_option linter.unusedSimpArgs false
namespace Go.Eng
open Go.RowKit

/-! ### Calls, and operations as a whole -/

def Enters (P : Program) (f : FuncId) : Prop := ∀ (args : Array Value) (w : World), (callFunc f args).run P w = .ok (.enter f args) w

theorem enters_of {P : Program} {f : FuncId} {fn : Func} (hf : P.funcs[f]? = some fn) (hn : fn.name ≠ "runtime.NumGoroutine") (hb : fn.body.isSome = true) : Enters P f := by
  intro args w
  unfold callFunc
  simp [hf, hn, Option.isSome_iff_ne_none.1 hb]

def AR (w : World) (G : Gh) (Z : Nat → Prop) (args : List AV) (us : Array Value) : Prop :=
  args.length = us.size ∧ ∀ j, j < args.length → VR w G Z (getT args j) (us.getD j undef)

def FunOK (P : Program) (f : FuncId) (args : List AV) (h : AH) (ctr : Nat) (v : AV) (h' : AH) (ctr' : Nat) : Prop :=
  Enters P f ∧ ctr ≤ ctr' ∧ ∀ (us : Array Value) w G Z, AR w G Z args us → HR w G Z h → (∀ nm, ctr ≤ nm → G nm = none) →
    Calls P f us w fun e w' => ∃ u G' Z', e = .returned u ∧ SR (fun n => ctr ≤ n ∧ n < ctr') w G Z h w' G' Z' h' ∧ VR w' G' Z' v u

def CinOK {R : Type} (P : Program) (cin : CallIn R) : Prop := ∀ f args h ctr k r, cin f args h ctr k = some r →
  ∃ v h' ctr', k v h' ctr' = some r ∧ FunOK P f args h ctr v h' ctr'

/-- A way out that is taken. -/
def Out.leaf {α : Type} : Out α → α → Prop
  | .ok a, b => a = b
  | .br c x y, b => (c = true ∧ x.leaf b) ∨ (c = false ∧ y.leaf b)
  | .bad, _ => False
theorem Out.k_some {α R : Type} {f : α → Option R} {r : R} : ∀ {o : Out α}, o.k f = some r → ∃ a, o.leaf a ∧ f a = some r
  | .ok a, h => ⟨a, rfl, h⟩
  | .br b x y, h => by
    cases b with
    | true => obtain ⟨a, h1, h2⟩ := Out.k_some (o := x) h; exact ⟨a, .inl ⟨rfl, h1⟩, h2⟩
    | false => obtain ⟨a, h1, h2⟩ := Out.k_some (o := y) h; exact ⟨a, .inr ⟨rfl, h1⟩, h2⟩
  | .bad, h => by cases h

structure SpecOK (P : Program) (f : FuncId) (sp : Spec) : Prop where
  enters : Enters P f
  ok : ∀ c args h x p, sp.dec c h args = some x → (sp.out x).leaf p → ∀ us w G Z, (∀ nm bl, hget h nm = some bl → wr bl = false) → HR w G Z h → AR w G Z args us → (∀ nm, c ≤ nm → G nm = none) →
    Calls P f us w fun e w' => ∃ u G' Z', e = .returned u ∧ IsoR w Z p.1 p.2 u w' G' Z'

structure CfgOK (g : Cfg) : Prop where
  names : ∀ (f : FuncId) (fn : Func), g.P.funcs[f]? = some fn → fn.name ≠ "runtime.NumGoroutine"
  meth : ∀ t m f, g.meth t m = some f → ∀ v w, (method (g.P.types.size + Made.depth) t v m).run g.P w = .ok (f, v) w
  spec : ∀ f sp, g.spec f = some sp → SpecOK g.P f sp
  mixed : g.P.follows .mixedOrders = true

section
variable {P : Program} {w : World} {G : Gh} {Z : Nat → Prop} {h : AH}

theorem SR.frzX1 (hr : HR w G Z h) (v : AV) : ∃ Z', SR (fun _ => False) w G Z h w G Z' (frzX1 h v) := by
  unfold Eng.frzX1
  split
  · split
    · exact SR.frzL _ hr
    · exact ⟨Z, .refl hr⟩
  · exact ⟨Z, .refl hr⟩
theorem SR.frzXL : ∀ (l : List AV) {Z : Nat → Prop} {h : AH} (hr : HR w G Z h), ∃ Z', SR (fun _ => False) w G Z h w G Z' (frzXL h l)
  | [], Z, h, hr => ⟨Z, .refl hr⟩
  | v :: r, Z, h, hr => by
    obtain ⟨Z1, s⟩ := SR.frzX1 hr v
    obtain ⟨Z2, t⟩ := SR.frzXL r s.hr
    exact ⟨Z2, (s.trans t).weak fun n h => h.elim id id⟩
theorem SR.frzX (hr : HR w G Z h) (v : AV) : ∃ Z', SR (fun _ => False) w G Z h w G Z' (frzX h v) := by
  unfold Eng.frzX
  split
  · exact SR.frzXL _ hr
  · exact SR.frzXL _ hr
  · exact SR.frzX1 hr _

theorem SR.iso {N : Nat → Prop} {w' : World} {G' : Gh} {Z' : Nat → Prop} {h' : AH} {v : AV} {u : Value} (s : SR N w G Z h w' G' Z' h') (hn : ∀ nm bl, hget h nm = some bl → wr bl = false) (hv : VR w' G' Z' v u) : IsoR w Z v h' u w' G' Z' where
  ext := s.ext.mono fun b j _ hw => by
    obtain ⟨nm, bl, ni, o, h1, h2, _⟩ := hw
    rw [hn nm bl h1] at h2; cases h2
  zm := s.zm
  zn b hb := by
    rcases s.zn b hb with h1 | h1 | h1
    · exact .inl h1
    · exact .inr h1
    · obtain ⟨nm, bl, ni, o, h1, h2, _⟩ := h1
      rw [hn nm bl h1] at h2; cases h2
  own nm bl ni b o h1 h2 h3 h4 := by
    rcases s.own nm bl ni b o h1 h3 h4 with q | ⟨nm0, bl0, ni0, o0, q1, q2, q3, q4⟩
    · exact q
    · have := q4 h2
      rw [hn nm0 bl0 q1] at this; cases this
  hr := s.hr
  vr := hv

theorem AR.ren {G' : Gh} {args : List AV} {us : Array Value} (ha : AR w G Z args us) (g : Nat → Option Nat) (hg : ∀ n m, g n = some m → ∀ ni, G n = some ni → G' m = some ni) : AR w G' Z (renL g args) us :=
  ⟨by rw [renL_len]; exact ha.1, fun j hj => by rw [getT_renL]; exact (ha.2 j (by rwa [renL_len] at hj)).ren g hg⟩

def isoG (G : Gh) (ns : List Nat) : Gh := fun m => (ns[m]?).bind G
theorem isoG_pos {ns : List Nat} (n m : Nat) (hm : posN n ns 0 = some m) (ni : NI) (hn : G n = some ni) : isoG G ns m = some ni := by
  obtain ⟨_, h2⟩ := posN_some hm
  simp only [Nat.sub_zero] at h2
  simp [isoG, h2, hn]
theorem hget_iso (h : AH) (ns : List Nat) (m : Nat) : hget (isoHeap h ns) m = (ns[m]?).bind fun n => ((hget h n).map (renB fun m => posN m ns 0)).map lendB := by
  unfold isoHeap
  rw [hget_lendH, hget_highH, if_pos (Nat.zero_le _)]
  simp only [Nat.sub_zero]
  cases ns[m]? <;> rfl
theorem iso_nw (h : AH) (ns : List Nat) (nm : Nat) (bl : Blk) (hh : hget (isoHeap h ns) nm = some bl) : wr bl = false := by
  rw [hget_iso] at hh
  cases e : ns[nm]? with
  | none => rw [e] at hh; cases hh
  | some n =>
    rw [e] at hh
    simp only [Option.bind_some, Option.map_map] at hh
    cases e2 : hget h n with
    | none => rw [e2] at hh; cases hh
    | some b => rw [e2] at hh; cases hh; exact wr_lend _
theorem iso_hr (hr : HR w G Z h) (ns : List Nat) : HR w (isoG G ns) Z (isoHeap h ns) where
  blk nm bl hh := by
    rw [hget_iso] at hh
    cases e : ns[nm]? with
    | none => rw [e] at hh; cases hh
    | some n =>
      rw [e] at hh
      simp only [Option.bind_some, Option.map_map] at hh
      cases e2 : hget h n with
      | none => rw [e2] at hh; cases hh
      | some b =>
        rw [e2] at hh; cases hh
        obtain ⟨ni, q1, q2⟩ := hr.blk n b e2
        exact ⟨ni, by simp [isoG, e, q1], (q2.ren _ fun n m hm ni hn => isoG_pos n m hm ni hn).lend⟩
  sep n m bn bm ni mi b o o' h1 h2 := by rw [iso_nw h ns n bn h1] at h2; cases h2
  zsep n bn ni b o h1 h2 := by rw [iso_nw h ns n bn h1] at h2; cases h2
  zlt := hr.zlt

theorem isoFin_ok {R : Type} {nb : Nat} {v : AV} {h' : AH} {k : AV → List Blk → Option R} {r : R} (hf : isoFin nb v h' k = some r) :
    ∃ v' ns bs, k v' bs = some r ∧ expV h' nb v [] [] = some (v', ns, bs) ∧ bs.length < 64 := by
  unfold isoFin at hf
  split at hf
  · rename_i v' ns bs he
    split at hf
    · rename_i hl
      exact ⟨v', ns, bs, hf, he, by simpa [Nat.blt_eq] using hl⟩
    · cases hf
  · cases hf

def rngN (nb n : Nat) : Prop := nb ≤ n ∧ n < nb + 64

/-- A call that stands alone. -/
theorem callIso_ok {R : Type} {g : Cfg} (hg : CfgOK g) {cin : CallIn R} (hc : CinOK g.P cin) {n : Nat} {f : FuncId} {args : List AV} {h : AH} {nb : Nat} {k : AV → List Blk → Option R} {r : R} (hh : callIso g cin n f args h nb k = some r) :
    ∃ v bs, k v bs = some r ∧ bs.length < 64 ∧ Enters g.P f ∧ ∀ us w G Z, AR w G Z args us → HR w G Z h → (∀ n, rngN nb n → G n = none) →
      Calls g.P f us w fun e w' => ∃ u G' Z', e = .returned u ∧ SR (rngN nb) w G Z h w' G' Z' (hsetAll h nb bs) ∧ VR w' G' Z' v u := by
  unfold callIso at hh
  simp only at hh
  generalize closN h args = ns at hh
  split at hh
  · rename_i sp hsp
    have so := hg.spec f sp hsp
    split at hh
    · rename_i x hx
      obtain ⟨p, hlf, hp⟩ := Out.k_some hh
      obtain ⟨v', ms, bs, e1, e2, e3⟩ := isoFin_ok hp
      refine ⟨v', bs, e1, e3, so.enters, fun us w G Z ha hr hG => ?_⟩
      refine (so.ok _ _ _ x p hx hlf us w (isoG G ns) Z (iso_nw h ns) (iso_hr hr ns) (ha.ren _ fun n m hm ni hn => isoG_pos n m hm ni hn) (fun m hm => by simp [isoG, List.getElem?_eq_none hm])).mono ?_
      rintro e w' ⟨u, G', Z', rfl, hi⟩
      obtain ⟨G2, Z2, s, hv⟩ := isoExp_ok hi e2 e3 hr (fun n h1 h2 => hG n ⟨h1, h2⟩)
      exact ⟨u, G2, Z2, rfl, s, hv⟩
    · cases hh
  · obtain ⟨v, h2, ctr', hk, hen, hle, hok⟩ := hc _ _ _ _ _ _ hh
    obtain ⟨v', ms, bs, e1, e2, e3⟩ := isoFin_ok hk
    refine ⟨v', bs, e1, e3, hen, fun us w G Z ha hr hG => ?_⟩
    refine (hok us w (isoG G ns) Z (ha.ren _ fun n m hm ni hn => isoG_pos n m hm ni hn) (iso_hr hr ns) (fun m hm => by simp [isoG, List.getElem?_eq_none hm])).mono ?_
    rintro e w' ⟨u, G', Z', rfl, s, hv⟩
    obtain ⟨Z1, t⟩ := SR.frzX s.hr v
    have hi := (s.trans t).iso (iso_nw h ns) (t.vr s.hr hv)
    obtain ⟨G2, Z2, s, hv⟩ := isoExp_ok hi e2 e3 hr (fun n h1 h2 => hG n ⟨h1, h2⟩)
    exact ⟨u, G2, Z2, rfl, s, hv⟩

/-! ### One operation -/

/-- No fence; within a round of a range over a function, or not. -/
@[reducible] def FW (ro : Option Nat) : Fence := { Fence.wide with round := ro }
theorem callsW {ro : Option Nat} {n : Nat} {f : FuncId} {args : Array Value} {w : World} {R : Ending → World → Prop} : CallsIn (FW ro) n P f args w R ↔ Calls P f args w R := callsIn_wide (n := n)

def Does (P : Program) (o : Oper) (a : Act) (w : World) (T : Value → World → Prop) : Prop :=
  ∀ (ro : Option Nat) (n : Nat) (K : Act → World → Prop) (Q : Exit → Act → World → Prop), (∀ u w', T u w' → K (a.put o.dst u) w') → o.wpIn (FW ro) n P a w K Q

theorem Does.of_run {o : Oper} {a : Act} {w : World} {T : Value → World → Prop} (hd : ∀ c, o.op ≠ .defer c) (h : ∀ (ro : Option Nat) (n : Nat) (K : Act → World → Prop) (Q : Exit → Act → World → Prop), (∀ u w', T u w' → K (a.put o.dst u) w') → o.uponIn (FW ro) n P a K Q ((execOp a.eval o).run P w)) : Does P o a w T := by
  intro ro n K Q hk
  refine ⟨fun _ _ => trivial, ?_⟩
  rw [Oper.semAt_eq _ _ _ hd]
  exact h ro n K Q hk
theorem Does.of_value {o : Oper} {a : Act} {w w' : World} {u : Value} {T : Value → World → Prop} (hd : ∀ c, o.op ≠ .defer c) (hr : (execOp a.eval o).run P w = .ok (.value u) w') (ht : T u w') : Does P o a w T := by
  refine .of_run hd fun ro n K Q hk => ?_
  rw [hr]
  exact hk _ _ ht
theorem Does.of_skip {o : Oper} {a : Act} {w w' : World} {T : Value → World → Prop} (hd : ∀ c, o.op ≠ .defer c) (hr : (execOp a.eval o).run P w = .ok .skip w') (ht : T undef w') : Does P o a w T := by
  refine .of_run hd fun ro n K Q hk => ?_
  rw [hr]
  exact hk _ _ ht
theorem Does.of_enter {o : Oper} {a : Act} {w : World} {f : FuncId} {us : Array Value} {T : Value → World → Prop} (hd : ∀ c, o.op ≠ .defer c) (hr : (execOp a.eval o).run P w = .ok (.enter f us) w)
    (hc : Calls P f us w fun e w' => ∃ u, e = .returned u ∧ T u w') : Does P o a w T := by
  refine .of_run hd fun ro n K Q hk => ?_
  rw [hr]
  refine ⟨fun h => (by cases h), callsW.2 (hc.mono ?_)⟩
  rintro e w' ⟨u, rfl, ht⟩
  exact hk _ _ ht

def NN (nb ctr ctr' n : Nat) : Prop := rngN nb n ∨ (ctr ≤ n ∧ n < ctr')

def OpT (N : Nat → Prop) (w : World) (G : Gh) (Z : Nat → Prop) (h : AH) (v : AV) (h' : AH) (u : Value) (w' : World) : Prop :=
  ∃ G' Z', SR N w G Z h w' G' Z' h' ∧ VR w' G' Z' v u

def OpOK (g : Cfg) (o : Oper) (nb ctr : Nat) (tm : List AV) (h : AH) (v : AV) (h' : AH) (ctr' : Nat) : Prop :=
  ctr ≤ ctr' ∧ (useC g o = false → ctr' = ctr) ∧ ∀ a w G Z, TR w G Z tm a.tmps → HR w G Z h → (∀ n, rngN nb n → G n = none) → (useC g o = true → ∀ n, ctr ≤ n → G n = none) →
    Does g.P o a w (OpT (NN nb ctr ctr') w G Z h v h')

theorem rng0 (nb : Nat) : rngN nb nb := ⟨Nat.le_refl _, by omega⟩

theorem AR.of_map {tm : List AV} {a : Act} (ht : TR w G Z tm a.tmps) (xs : Array Operand) : AR w G Z (xs.toList.map (ev1 tm)) (xs.map a.eval) := by
  refine ⟨by simp, fun j hj => ?_⟩
  have := argL ht xs.toList j hj
  simpa using this
theorem AR.append {xs ys : List AV} {us vs : Array Value} (h1 : AR w G Z xs us) (h2 : AR w G Z ys vs) : AR w G Z (xs ++ ys) (us ++ vs) := by
  obtain ⟨l1, h1⟩ := h1
  obtain ⟨l2, h2⟩ := h2
  refine ⟨by simp [l1, l2], fun j hj => ?_⟩
  rw [getT_append, Array.getD_eq_getD_getElem?, Array.getElem?_append, ← l1]
  split
  · rename_i hlt
    have := h1 j hlt
    rwa [Array.getD_eq_getD_getElem?] at this
  · rename_i hlt
    have := h2 (j - xs.length) (by rw [List.length_append] at hj; omega)
    rwa [Array.getD_eq_getD_getElem?] at this
theorem AR.cons {x : AV} {ys : List AV} {u : Value} {vs : Array Value} (h1 : VR w G Z x u) (h2 : AR w G Z ys vs) : AR w G Z (x :: ys) (#[u] ++ vs) :=
  AR.append (xs := [x]) ⟨rfl, fun j hj => by
    simp at hj; subst hj; exact h1⟩ h2

theorem opN_len {P : Program} {tc : Nat → Cd} {h : AH} {tm : List AV} {nb : Nat} {o : Oper} {b : Bool} {v : AV} {bs : List Blk} (ho : opN P tc h tm nb o = some (b, v, bs)) : bs.length < 64 := by
  unfold opN at ho
  repeat' split at ho
  all_goals first
    | cases ho; done
    | (simp only [nv, Option.some.injEq, Prod.mk.injEq] at ho; obtain ⟨-, -, rfl⟩ := ho; simp; done)

theorem evOp1_nd {R : Type} {g : Cfg} {cin : CallIn R} {n : Nat} {h : AH} {nb : Nat} {o : Oper} {tm : List AV} {ctr : Nat} {k : AV → AH → Nat → Option R} {r : R}
    (hh : evOp1 g cin n h nb o tm ctr k = some r) (c : Call) : o.op ≠ .defer c := by
  intro e
  obtain ⟨dst, op, oty, pos, after, guard⟩ := o
  simp only at e
  subst e
  simp [evOp1, cls, opP] at hh

theorem evOp1_ok {R : Type} {g : Cfg} (hg : CfgOK g) {cin : CallIn R} (hc : CinOK g.P cin) {n : Nat} {h : AH} {nb : Nat} {o : Oper} {tm : List AV} {ctr : Nat} {k : AV → AH → Nat → Option R} {r : R}
    (hh : evOp1 g cin n h nb o tm ctr k = some r) : ∃ v h' ctr', k v h' ctr' = some r ∧ OpOK g o nb ctr tm h v h' ctr' ∧ (cls g o = 0 → h' = h) ∧ (cls g o = 1 → ∃ bs, bs.length < 64 ∧ h' = hsetAll h nb bs) := by
  have hnd := evOp1_nd hh
  unfold evOp1 at hh
  generalize hcl : cls g o = cl at hh
  have hpure : ∀ {ok : Bool} {v : AV} {h' : AH}, ifb ok (k v h' ctr) none = some r → ok = true ∧ k v h' ctr = some r := by
    intro ok v h' hi
    cases ok
    · cases hi
    · exact ⟨rfl, hi⟩
  have hopw : ∀ {cl2}, cl = cl2 + 2 → (useC g o = false) → (match opW g.P g.tc h tm nb o with
      | some (ok, v, h) => ifb ok (k v h ctr) none
      | none => none) = some r → ∃ v h' ctr', k v h' ctr' = some r ∧ OpOK g o nb ctr tm h v h' ctr' ∧ (cl = 0 → h' = h) ∧ (cl = 1 → ∃ bs, bs.length < 64 ∧ h' = hsetAll h nb bs) := by
    intro cl2 hcl2 hu hm
    split at hm
    · rename_i ok v h' ho
      obtain ⟨rfl, hk⟩ := hpure hm
      refine ⟨v, h', ctr, hk, ⟨Nat.le_refl _, fun _ => rfl, fun a w G Z ht hr hG _ => ?_⟩, fun e => by omega, fun e => by omega⟩
      obtain ⟨u, w', G', Z', hrun, hv, s⟩ := opW_ok ht hr (hG nb (rng0 nb)) ho
      have hT : OpT (NN nb ctr ctr) w G Z h v h' u w' := ⟨G', Z', s.weak fun n hn => .inl (hn ▸ rng0 nb), hv⟩
      rcases hrun with hrun | ⟨hrun, rfl⟩
      · exact .of_value hnd hrun hT
      · exact .of_skip hnd hrun hT
    · cases hm
  have hcin : ∀ {cl2} {f : FuncId} {args : List AV}, cl = cl2 + 2 → useC g o = true → cin f args h ctr k = some r →
      (∀ (a : Act) (w : World) (G : Gh) (Z : Nat → Prop), TR w G Z tm a.tmps → ∃ us, AR w G Z args us ∧ execOp a.eval o = callFunc f us) →
      ∃ v h' ctr', k v h' ctr' = some r ∧ OpOK g o nb ctr tm h v h' ctr' ∧ (cl = 0 → h' = h) ∧ (cl = 1 → ∃ bs, bs.length < 64 ∧ h' = hsetAll h nb bs) := by
    intro cl2 f args hcl2 hu hci hex
    obtain ⟨v, h', ctr', hk, hen, hle, hok⟩ := hc _ _ _ _ _ _ hci
    refine ⟨v, h', ctr', hk, ⟨hle, fun e => (by rw [hu] at e; cases e), fun a w G Z ht hr _ hG => ?_⟩, fun e => by omega, fun e => by omega⟩
    obtain ⟨us, ha, he⟩ := hex a w G Z ht
    refine .of_enter hnd (by rw [he]; exact hen us w) ((hok us w G Z ha hr (hG hu)).mono ?_)
    rintro e w' ⟨u, G', Z', rfl, s, hv⟩
    exact ⟨u, rfl, G', Z', s.weak fun n hn => .inr hn, hv⟩
  have hiso : ∀ {f : FuncId} {args : List AV}, cl = 1 → (callIso g cin n f args h nb fun v bs => k v (hsetAll h nb bs) ctr) = some r →
      (∀ (a : Act) (w : World) (G : Gh) (Z : Nat → Prop), TR w G Z tm a.tmps → ∃ us, AR w G Z args us ∧ (execOp a.eval o).run g.P w = (callFunc f us).run g.P w) →
      ∃ v h' ctr', k v h' ctr' = some r ∧ OpOK g o nb ctr tm h v h' ctr' ∧ (cl = 0 → h' = h) ∧ (cl = 1 → ∃ bs, bs.length < 64 ∧ h' = hsetAll h nb bs) := by
    intro f args hcl1 hci hex
    obtain ⟨v, bs, hk, hl, hen, hok⟩ := callIso_ok hg hc hci
    refine ⟨v, hsetAll h nb bs, ctr, hk, ⟨Nat.le_refl _, fun _ => rfl, fun a w G Z ht hr hG _ => ?_⟩, fun e => by omega, fun _ => ⟨bs, hl, rfl⟩⟩
    obtain ⟨us, ha, he⟩ := hex a w G Z ht
    refine .of_enter hnd (by rw [he]; exact hen us w) ((hok us w G Z ha hr hG).mono ?_)
    rintro e w' ⟨u, G', Z', rfl, s, hv⟩
    exact ⟨u, rfl, G', Z', s.weak fun n hn => .inl hn, hv⟩
  split at hh
  · -- values alone
    split at hh
    · rename_i ok v ho
      obtain ⟨rfl, hk⟩ := hpure hh
      refine ⟨v, h, ctr, hk, ⟨Nat.le_refl _, fun _ => rfl, fun a w G Z ht hr _ _ => ?_⟩, fun _ => rfl, fun e => by omega⟩
      obtain ⟨u, hrun, hv⟩ := opP_ok ht ho
      exact .of_value hnd hrun ⟨G, Z, .refl hr, hv⟩
    · cases hh
  · -- what reads, or makes
    obtain ⟨dst, op, oty, pos, after, guard⟩ := o
    simp only at hh
    split at hh
    · rename_i c
      obtain ⟨callee, xs, ats⟩ := c
      simp only at hh
      split at hh
      · rename_i f
        refine hiso rfl hh fun a w G Z ht => ⟨_, AR.of_map ht xs, ?_⟩
        rw [execOp_call_go]
        simp
      · rename_i rv m
        split at hh
        · rename_i t x hx
          split at hh
          · rename_i f hf
            refine hiso rfl hh fun a w G Z ht => ?_
            have hv := ev1_ok ht rv
            rw [hx] at hv
            obtain ⟨u, hu⟩ : ∃ u, u = a.eval rv := ⟨_, rfl⟩
            rw [← hu] at hv
            cases hv with
            | iface _ _ y hy =>
              refine ⟨_, AR.cons hy (AR.of_map ht xs), ?_⟩
              have hm := hg.meth t m f hf y w
              simp only [execOp, resolve, ← hu]
              have e0 : (#[Value.iface t y] ++ Array.map a.eval xs)[0]? = some (Value.iface t y) := by rw [Array.getElem?_append_left (Nat.zero_lt_one)]; rfl
              have e1 : (Array.map a.eval xs).extract 0 xs.size = Array.map a.eval xs := Array.extract_eq_self_of_le (Nat.le_of_eq Array.size_map)
              simp [invoke, callMethod, hm, e1]
              rw [e0]
              simp [hm]
          · cases hh
        · cases hh
      · cases hh
    · split at hh
      · rename_i ok v bs ho
        obtain ⟨rfl, hk⟩ := hpure hh
        refine ⟨v, hsetAll h nb bs, ctr, hk, ⟨Nat.le_refl _, fun _ => rfl, fun a w G Z ht hr hG _ => ?_⟩, fun e => by omega, fun _ => ⟨bs, opN_len ho, rfl⟩⟩
        obtain ⟨u, w', G', Z', hrun, hv, s⟩ := opN_ok ht hr (hG nb (rng0 nb)) ho
        exact .of_value hnd hrun ⟨G', Z', s.weak fun n hn => .inl (hn ▸ rng0 nb), hv⟩
      · cases hh
  · -- what writes
    rename_i h0 h1
    obtain ⟨cl2, rfl⟩ : ∃ m, cl = m + 2 := by
      rcases cl with _ | _ | m
      · exact absurd rfl h0
      · exact absurd rfl h1
      · exact ⟨m, rfl⟩
    obtain ⟨dst, op, oty, pos, after, guard⟩ := o
    have huse : ∀ {c : Call}, op = .call c → useC g { dst, op, type := oty, pos, after, guard } = (match c.callee with | .value _ => true | _ => false) := by
      intro c e
      subst e
      unfold useC
      rw [hcl]
      rfl
    simp only at hh
    split at hh
    · rename_i c
      have hu := huse rfl
      obtain ⟨callee, xs, ats⟩ := c
      simp only at hh hu
      split at hh
      · rename_i f
        refine hcin rfl hu hh fun a w G Z ht => ⟨_, AR.of_map ht xs, ?_⟩
        rw [execOp_call_go]
        simp
      · rename_i x _
        split at hh
        · rename_i f cs hx
          refine hcin rfl hu hh fun a w G Z ht => ?_
          have hv := ev1_ok ht x
          rw [hx] at hv
          obtain ⟨u, hu⟩ : ∃ u, u = a.eval x := ⟨_, rfl⟩
          rw [← hu] at hv
          cases hv with
          | fn _ _ vs h1 h2 =>
            refine ⟨_, (AR.of_map ht xs).append ⟨h1, h2⟩, ?_⟩
            simp [execOp, resolve, ← hu, Deferred.ofValue, invoke]
        · cases hh
      · rename_i q1 q2
        refine hopw rfl ?_ hh
        rw [hu]
        split
        · rename_i x; exact absurd rfl (q2 x)
        · rfl
    · rename_i q
      refine hopw rfl ?_ hh
      unfold useC
      rw [hcl]
      simp only
end
end Go.Eng

set_option linter.unusedVariables false
set_option linter.unusedSimpArgs false
namespace Go.Eng
open Go.RowKit

/-! ### Guards, and regions in their order -/

theorem setT_self : ∀ (l : List AV) (n : Nat), setT l n (getT l n) = l
  | [], _ => rfl
  | _ :: _, 0 => rfl
  | _ :: r, n + 1 => by simp [setT, getT, setT_self r n]

/-- The slot on which a guard looks. -/
def gdS (ops : List Oper) (o : Oper) (tm : List AV) (b : Bool) : Prop :=
  (o.guard = none ∧ b = true) ∨ ∃ j want p t y, o.guard = some (j, want) ∧ ops[j]? = some p ∧ p.dst = some t ∧ getT tm t = .bool y ∧ b = (y == want)

theorem guarded_ok {R : Type} {ops : List Oper} {o : Oper} {s : St} {run skip : St → Option R} {r : R} (h : guarded ops o s run skip = some r) :
    ∃ b, gdS ops o s.tmps b ∧ (b = true → run s = some r) ∧ (b = false → skip { s with tmps := putT s.tmps o.dst .top } = some r) := by
  unfold guarded at h
  split at h
  · cases h
  · rename_i hg
    refine ⟨true, .inl ⟨?_, rfl⟩, fun _ => h, fun e => by cases e⟩
    unfold gdOf at hg
    split at hg
    · assumption
    · split at hg
      · split at hg <;> cases hg
      · cases hg
  · rename_i t want hg
    have hgd : ∃ j p, o.guard = some (j, want) ∧ ops[j]? = some p ∧ p.dst = some t := by
      unfold gdOf at hg
      split at hg
      · cases hg
      · rename_i j w' hgu
        split at hg
        · rename_i p hp
          split at hg
          · rename_i t' ht
            cases hg
            exact ⟨j, p, hgu, hp, ht⟩
          · cases hg
        · cases hg
    obtain ⟨j, p, h1, h2, h3⟩ := hgd
    split at h
    · rename_i b hb
      have hs : setG b s.tmps t = s.tmps := by unfold setG; rw [← hb]; exact setT_self _ _
      refine ⟨b == want, .inr ⟨j, want, p, t, b, h1, h2, h3, hb, rfl⟩, ?_, ?_⟩
      · intro e
        have : b = want := by simpa using e
        subst this
        cases b <;> simp only [ifb] at h <;> rw [hs] at h <;> exact h
      · intro e
        cases b <;> cases want <;> simp at e <;> simp only [ifb] at h <;> rw [hs] at h <;> exact h
    · cases h

section
variable {w : World} {G : Gh} {Z : Nat → Prop}

theorem gdS_wanted {ops : Array Oper} {o : Oper} {tm : List AV} {b : Bool} {a : Act} (hg : gdS ops.toList o tm b)
    (ht : ∀ j want p t, o.guard = some (j, want) → ops[j]? = some p → p.dst = some t → VR w G Z (getT tm t) (a.tmps.getD t undef)) : Region.wanted o (yielded ops a.tmps) = b := by
  rcases hg with ⟨h1, rfl⟩ | ⟨j, want, p, t, y, h1, h2, h3, h4, rfl⟩
  · simp [Region.wanted, h1]
  · have h2' : ops[j]? = some p := by simpa using h2
    have hv := ht j want p t h1 h2' h3
    rw [h4] at hv
    have hy : yielded ops a.tmps j = some y := by
      unfold yielded
      rw [h2']
      simp only [Option.bind_some, h3]
      obtain ⟨u, hu⟩ : ∃ u, u = a.tmps.getD t undef := ⟨_, rfl⟩
      rw [← hu] at hv
      cases hv
      rw [Array.getD_eq_getD_getElem?] at hu
      cases e : a.tmps[t]? with
      | none => rw [e] at hu; cases hu
      | some x => rw [e] at hu; simp at hu; subst hu; rfl
    simp [Region.wanted, h1, hy]

structure SRel (dd : List Deferred) (s : St) (a : Act) (w : World) (G : Gh) (Z : Nat → Prop) : Prop where
  tr : TR w G Z s.tmps a.tmps
  hr : HR w G Z s.heap
  fr : ∀ n, s.ctr ≤ n → G n = none
  df : a.defers = dd

theorem TR.sr {N : Nat → Prop} {h h' : AH} {w' : World} {G' : Gh} {Z' : Nat → Prop} {tm : List AV} {a : Array Value} (ht : TR w G Z tm a) (hr : HR w G Z h) (s : SR N w G Z h w' G' Z' h') : TR w' G' Z' tm a :=
  ⟨ht.len, fun t => s.vr hr (ht.at_ t)⟩

theorem put_defers (a : Act) (d : Option Tmp) (v : Value) : (a.put d v).defers = a.defers := by cases d <;> rfl

theorem evOps_ok {R : Type} {g : Cfg} (hg : CfgOK g) {cin : CallIn R} (hc : CinOK g.P cin) {n : Nat} {ops : Array Oper} {c0 : Nat} {k : St → Option R} {r : R} :
    ∀ (rest : List Oper) (i : Nat) (s : St), evOps g cin n ops.toList c0 i rest s k = some r → c0 + 64 * (i + rest.length) ≤ s.ctr →
    ∃ s', k s' = some r ∧ s.ctr ≤ s'.ctr ∧ ∀ {dd : List Deferred} a w G Z, SRel dd s a w G Z → (∀ m, c0 + 64 * i ≤ m → m < c0 + 64 * (i + rest.length) → G m = none) →
      ∀ (ro : Option Nat) (m : Nat) (Q : Exit → Act → World → Prop), (∀ a' w' G' Z', SRel dd s' a' w' G' Z' → SR (c0 ≤ ·) w G Z s.heap w' G' Z' s'.heap → Q .normal a' w') → wpListIn (FW ro) m g.P ops Q rest a w
  | [], i, s, h, hle => ⟨s, h, Nat.le_refl _, fun a w G Z hs hf ro m Q hQ => hQ a w G Z hs (.refl hs.hr)⟩
  | o :: rest, i, s, h, hle => by
    simp only [evOps] at h
    have hl : (o :: rest).length = rest.length + 1 := rfl
    obtain ⟨b, hgd, hrun, hskip⟩ := guarded_ok h
    cases b with
    | true =>
      obtain ⟨v, h', ctr', hk, ⟨hle', hnc, hok⟩, -, -⟩ := evOp1_ok hg hc (hrun rfl)
      obtain ⟨s', hk', hle2, hrest⟩ := evOps_ok hg hc rest (i + 1) _ hk (by simp only; omega)
      refine ⟨s', hk', Nat.le_trans hle' hle2, fun a w G Z hs hf ro m Q hQ => ?_⟩
      unfold wpListIn
      rw [gdS_wanted (a := a) (w := w) (G := G) (Z := Z) hgd fun j want p t _ _ _ => hs.tr.at_ t, if_pos rfl]
      refine hok a w G Z hs.tr hs.hr (fun m hm => hf m hm.1 (by have := hm.2; omega)) (fun _ => hs.fr) ro m _ Q ?_
      rintro u w' ⟨G', Z', t, hv⟩
      have hgn : ∀ m, G' m ≠ none → G m ≠ none ∨ NN (c0 + 64 * i) s.ctr ctr' m := by
        intro m hm
        cases e : G' m with
        | none => exact absurd e hm
        | some ni => rcases t.gn m ni e with q | q
                     · exact .inl (by rw [q]; simp)
                     · exact .inr q
      have hnone : ∀ m, G m = none → ¬ NN (c0 + 64 * i) s.ctr ctr' m → G' m = none := by
        intro m h1 h2
        cases e : G' m with
        | none => rfl
        | some ni => rcases hgn m (by rw [e]; simp) with q | q
                     · exact absurd h1 q
                     · exact absurd q h2
      refine hrest (a.put o.dst u) w' G' Z' ⟨(hs.tr.sr hs.hr t).put hv o.dst, t.hr, ?_, (put_defers _ _ _).trans hs.df⟩ ?_ ro m Q ?_
      · intro m hm
        simp only at hm
        refine hnone m (hs.fr m (by omega)) ?_
        rintro (⟨q1, q2⟩ | ⟨q1, q2⟩) <;> omega
      · intro m h1 h2
        refine hnone m (hf m (by omega) (by omega)) ?_
        rintro (⟨q1, q2⟩ | ⟨q1, q2⟩) <;> omega
      · intro a2 w2 G2 Z2 hs2 t2
        refine hQ a2 w2 G2 Z2 hs2 ((t.trans t2).weak ?_)
        rintro m ((⟨q1, q2⟩ | ⟨q1, q2⟩) | q)
        · exact Nat.le_trans (Nat.le_add_right _ _) q1
        · show c0 ≤ m; omega
        · exact q
    | false =>
      obtain ⟨s', hk', hle2, hrest⟩ := evOps_ok hg hc rest (i + 1) _ (hskip rfl) (by simp only; omega)
      refine ⟨s', hk', hle2, fun a w G Z hs hf ro m Q hQ => ?_⟩
      unfold wpListIn
      rw [gdS_wanted (a := a) (w := w) (G := G) (Z := Z) hgd fun j want p t _ _ _ => hs.tr.at_ t, if_neg (by simp)]
      refine ⟨fun _ _ => trivial, ?_⟩
      refine hrest (a.put o.dst undef) w G Z ⟨hs.tr.put (.top _) o.dst, hs.hr, hs.fr, (put_defers _ _ _).trans hs.df⟩ (fun m h1 h2 => hf m (by omega) (by omega)) ro m Q ?_
      intro a2 w2 G2 Z2 hs2 t2
      exact hQ a2 w2 G2 Z2 hs2 t2
end
end Go.Eng

set_option linter.unusedVariables false
set_option linter.unusedSimpArgs false
namespace Go.Eng
open Go.RowKit

/-! ### An operation looks at its operands alone -/

theorem sB_congr {tm tm' : List AV} {o : Option Operand} (h : ∀ x ∈ o.toList, ev1 tm x = ev1 tm' x) (d : Int) : sB tm o d = sB tm' o d := by
  cases o with
  | none => rfl
  | some x => simp only [sB, h x (by simp)]

theorem mapE_congr {tm tm' : List AV} {l : List Operand} (h : ∀ x ∈ l, ev1 tm x = ev1 tm' x) : l.map (ev1 tm) = l.map (ev1 tm') :=
  List.map_congr_left h
theorem mapP_congr {tm tm' : List AV} {l : List (Nat × Operand)} (h : ∀ p ∈ l, ev1 tm p.2 = ev1 tm' p.2) : l.map (fun p => (p.1, ev1 tm p.2)) = l.map (fun p => (p.1, ev1 tm' p.2)) :=
  List.map_congr_left fun p hp => by rw [h p hp]

section
variable {P : Program} {tc : Nat → Cd} {tm tm' : List AV}

theorem args_congr {c : Call} (h : ∀ x ∈ c.operands, ev1 tm x = ev1 tm' x) : ∀ x ∈ c.args.toList, ev1 tm x = ev1 tm' x := by
  intro x hx
  refine h x ?_
  unfold Call.operands
  cases c.callee <;> simp at hx ⊢ <;> simp [hx]

theorem opSlice_congr {t : TypeId} {x : AV} {lo hi mx : Option Operand} (h1 : ∀ d, sB tm lo d = sB tm' lo d) (h2 : ∀ d, sB tm hi d = sB tm' hi d) (h3 : ∀ d, sB tm mx d = sB tm' mx d) :
    opSlice P tc tm t x lo hi mx = opSlice P tc tm' t x lo hi mx := by
  unfold opSlice
  split
  · cases x <;> cases lo <;> cases hi <;> cases mx <;> simp only [h1, h2, h3]
  · simp only [h1, h2, h3]
  · simp only [h1, h2, h3]
  · rfl

theorem opP_congr {o : Oper} (h : ∀ x ∈ o.op.operands, ev1 tm x = ev1 tm' x) : opP P tc tm o = opP P tc tm' o := by
  obtain ⟨dst, op, oty, pos, after, guard⟩ := o
  cases op <;> simp only [Op.operands] at h <;> try rfl
  case slice t x lo hi mx =>
    simp only [opP]
    rw [h x (by simp)]
    refine opSlice_congr (fun d => sB_congr (fun y hy => h y ?_) d) (fun d => sB_congr (fun y hy => h y ?_) d) (fun d => sB_congr (fun y hy => h y ?_) d)
    all_goals (simp at hy ⊢; simp [hy])
  case build t ps =>
    simp only [opP, opBuild]
    rw [mapP_congr (l := ps.toList) fun p hp => h p.2 (by simp at hp ⊢; exact ⟨p.1, hp⟩)]
  case makeFunc fn first captured =>
    cases fn <;> simp only [opP]
    rw [mapE_congr (l := captured.toList) fun x hx => h x (by simp at hx ⊢; exact .inr hx)]
  case call c =>
    have ha := args_congr h
    obtain ⟨callee, args, ats⟩ := c
    obtain ⟨args⟩ := args
    simp only at ha
    cases callee with
    | builtin b =>
      cases b <;> try rfl
      all_goals
        simp only [opP]
        rcases args with _ | ⟨x, _ | ⟨y, r⟩⟩ <;> try rfl
      all_goals
        have hx := ha x (by simp)
        obtain ⟨ats⟩ := ats
        rcases ats with _ | ⟨t, _ | ⟨t2, r2⟩⟩
      all_goals first
        | rfl
        | (simp only [hx]; done)
        | (simp only [List.map_nil, hx]; done)
        | (simp only [hx, mapE_congr (l := y :: r) fun z hz => ha z (by simp at hz ⊢; exact .inr hz)]; done)
    | _ => rfl
  all_goals (simp only [opP]; simp at h; simp only [h])

theorem opN_congr {h : AH} {nb : Nat} {o : Oper} (hh : ∀ x ∈ o.op.operands, ev1 tm x = ev1 tm' x) : opN P tc h tm nb o = opN P tc h tm' nb o := by
  obtain ⟨dst, op, oty, pos, after, guard⟩ := o
  cases op <;> simp only [Op.operands] at hh <;> try rfl
  case buildSlice t n ps =>
    simp only [opN]
    rw [mapP_congr (l := ps.toList) fun p hp => hh p.2 (by simp at hp ⊢; exact ⟨p.1, hp⟩)]
  all_goals (simp only [opN]; simp at hh; simp only [hh])

theorem opW_congr {h : AH} {nb : Nat} {o : Oper} (hh : ∀ x ∈ o.op.operands, ev1 tm x = ev1 tm' x) : opW P tc h tm nb o = opW P tc h tm' nb o := by
  obtain ⟨dst, op, oty, pos, after, guard⟩ := o
  cases op <;> simp only [Op.operands] at hh <;> try rfl
  case call c =>
    have ha := args_congr hh
    obtain ⟨callee, args, ats⟩ := c
    obtain ⟨args⟩ := args
    simp only at ha
    cases callee with
    | builtin b =>
      cases b <;> try rfl
      all_goals
        simp only [opW]
        rcases args with _ | ⟨x, _ | ⟨y, _ | ⟨z, r⟩⟩⟩ <;> try rfl
      all_goals
        have hx := ha x (by simp)
        obtain ⟨ats⟩ := ats
        rcases ats with _ | ⟨t, _ | ⟨t2, _ | ⟨t3, r2⟩⟩⟩
      all_goals first
        | rfl
        | (simp only [hx]; done)
        | (simp only [hx, ha y (by simp)]; done)
    | _ => rfl
  all_goals (simp only [opW]; simp at hh; simp only [hh])

theorem evOp1_congr {R : Type} {g : Cfg} {cin : CallIn R} {n : Nat} {h : AH} {nb : Nat} {o : Oper} {ctr : Nat} {k : AV → AH → Nat → Option R}
    (hh : ∀ x ∈ o.op.operands, ev1 tm x = ev1 tm' x) : evOp1 g cin n h nb o tm ctr k = evOp1 g cin n h nb o tm' ctr k := by
  unfold evOp1
  rw [opP_congr hh, opN_congr hh, opW_congr hh]
  obtain ⟨dst, op, oty, pos, after, guard⟩ := o
  cases op <;> try rfl
  rename_i c
  have ha := args_congr hh
  have hm := mapE_congr ha
  simp only [Op.operands, Call.operands] at hh
  obtain ⟨callee, args, ats⟩ := c
  simp only at hm hh
  simp only [hm]
  cases callee with
  | builtin b => rfl
  | value f =>
    simp only at hh
    have hf := hh f (by simp)
    cases f <;> first | rfl | simp only [hf]
  | invoke rv m =>
    simp only at hh
    have hf := hh rv (by simp)
    simp only [hf]

/-- Only the slots that the operation looks at. -/
def mask (o : Oper) (tm : List AV) : List AV := keepT (o.op.operands.toList.flatMap opndT) 0 tm
theorem keepT_len (ks : List Nat) : ∀ (l : List AV) (i : Nat), (keepT ks i l).length = l.length
  | [], i => rfl
  | v :: r, i => by simp [keepT, keepT_len ks r (i + 1)]
theorem getT_keepT (ks : List Nat) : ∀ (l : List AV) (i j : Nat), getT (keepT ks i l) j = if i + j ∈ ks then getT l j else .top
  | [], i, j => by simp [keepT, getT]
  | v :: r, i, 0 => by
    simp only [keepT, getT, Nat.add_zero]
    cases hm : memN i ks with
    | true => rw [if_pos (memN_iff.1 hm)]
    | false => rw [if_neg fun hh => by rw [memN_iff.2 hh] at hm; cases hm]
  | v :: r, i, j + 1 => by
    simp only [keepT, getT, getT_keepT ks r (i + 1) j]
    rw [show i + 1 + j = i + (j + 1) by omega]
theorem ev1_mask (o : Oper) (tm : List AV) : ∀ x ∈ o.op.operands, ev1 tm x = ev1 (mask o tm) x := by
  intro x hx
  cases x with
  | tmp t =>
    simp only [ev1, mask, getT_keepT, Nat.zero_add]
    rw [if_pos]
    rw [List.mem_flatMap]
    exact ⟨.tmp t, by simpa using hx, by simp [opndT]⟩
  | _ => rfl
end
end Go.Eng
