/- A part of the evaluator of the program and of its proof: texts E19, E20, E21, E22, E23, E24, E25, E26, E27, E28, E29. -/
import Derived.Test.YtmokabokdhhdiaaGreatEngD
set_option linter.unusedVariables false
set_option linter.unusedSimpArgs false
namespace Go.Eng
open Go.RowKit

section
variable {P : Program} {w w' : World} {G : Gh} {Z : Nat → Prop} {h : AH} {tc : Nat → Cd}

theorem heap_setCell1 (w : World) (b o k : Nat) (v : Value) : (w.setCell ⟨b, o, none⟩ v).heap[k]? = if b = k then (w.heap[k]?).map (fun
      | .cells c elem fr => .cells (c.setIfInBounds o v) elem fr
      | x => x) else w.heap[k]? := by
  unfold World.setCell
  simp only [Array.getElem?_modify]
  rfl
theorem ext_setCell1 (w : World) (b o : Nat) (v : Value) : Ext (fun b' _ => b' = b) w (w.setCell ⟨b, o, none⟩ v) where
  os := rfl
  tape := rfl
  output := rfl
  size := by simp
  blk k hk hn := heap_setCell_other w _ k v (fun e => hn 0 e)
  shp k _ := by
    unfold World.shape?
    rw [heap_setCell1]
    by_cases e : b = k
    · rw [if_pos e]
      cases hh : w.heap[k]? with
      | none => rfl
      | some x => cases x <;> simp
    · rw [if_neg e]
  cell k j hk hn := World.cell?_setCell_other _ _ _ _ (fun e => hn (by cases e; rfl))
  frz k hk hf := by
    intro cs e lo hi hh
    rw [heap_setCell1] at hh
    split at hh
    · rename_i ek
      subst ek
      cases hw : w.heap[b]? with
      | none => rw [hw] at hh; cases hh
      | some ob =>
        rw [hw] at hh
        cases ob with
        | cells c el fr =>
          simp only [Option.map_some, Option.some.injEq, Obj.cells.injEq] at hh
          obtain ⟨rfl, rfl, rfl⟩ := hh
          have := hf c el lo hi hw
          simpa using this
        | _ => cases hh
    · exact hf cs e lo hi hh
theorem ext_setCells (b : Nat) : ∀ (vs : List Value) (o : Nat) (w : World), Ext (fun b' _ => b' = b) w (w.setCells b o vs)
  | [], _, w => .refl _ _
  | v :: r, o, w => (ext_setCell1 w b o v).trans (ext_setCells b r (o + 1) _) fun _ _ _ h => h

/-- A block is written, its name stays. -/
theorem SR.upd1 (hr : HR w G Z h) {nm : Nat} {bl bl' : Blk} {ni : NI} {b o : Nat} (hb : hget h nm = some bl) (hw : wr bl = true) (hn : G nm = some ni) (hbk : ni.blk = some (b, o))
    (he : Ext (fun b' _ => b' = b) w w') (hw' : wr bl' = true) (hbl : BR w' G Z ni bl') : SR (fun _ => False) w G Z h w' G Z (hset h nm bl') := by
  have hG1 : Eng.upd G nm ni = G := by
    funext n
    by_cases e : n = nm
    · subst e; rw [upd_same, hn]
    · rw [upd_ne _ _ e]
  have s := SR.upd hr (nb := nm) (ni' := ni) (o' := o) (bl' := bl') hb hw hn hbk he (.inl ⟨rfl, rfl⟩) hw' hbk (by rw [hG1]; exact hbl)
  rw [hG1] at s
  refine (s.drop fun n hn' => ?_).congr fun n => ?_
  · subst hn'; exact ⟨⟨_, hn⟩, ⟨_, hb⟩⟩
  · rw [hget_hset, hget_hset, hget_hdel]
    split
    · rfl
    · rfl

/-- Cells are written. -/
theorem run_storeAt {t : TypeId} {u : Value} {b o : Nat} (hs : u.cells.size = P.cellsOf t) (h0 : u.cells.size ≠ 0) (hc : ∀ j, j < u.cells.size → (w.cell? (ad b (o + j))).isSome = true)
    (hf : ∀ j, j < u.cells.size → w.frozen? (ad b (o + j)) = false) (h1 : ∀ j, j < u.cells.size → (u.cells.getD j undef).oneCell' = true) :
    (Instr.storeAt t (.pointer (some (ad b o))) u).run P w = .ok () (w.setCells b o u.cells.toList) := by
  obtain ⟨i, hi⟩ := info_of_cells (n := u.cells.size) hs.symm h0
  have hst := run_storeCells_cells (P := P) b o u.cells.toList 0 w (by simpa using hc) (by simpa using hf) (fun v hv => by
    obtain ⟨j, hj, rfl⟩ := List.getElem_of_mem hv
    have := h1 j (by simpa using hj)
    have hj' : j < u.cells.size := by simpa using hj
    simpa [Array.getD, hj'] using this)
  simp only [Nat.add_zero] at hst
  have hne : ¬ (u.cells.size ≠ P.cellsOf t) := by omega
  simp only [Instr.storeAt, Instr.sureAddr, Sem.run_bind, Sem.run_pure, Result.andThen_ok, storeVar, run_sz' hi, if_neg hne, hst]

theorem cells_in {b o : Nat} {vs : List Value} (hc : ∀ j, j < vs.length → (w.cell? (ad b (o + j))).isSome = true) {k : Nat} (h1 : o ≤ k) (h2 : k < o + vs.length) :
    (w.setCells b o vs).cell? (ad b k) = some (vs.getD (k - o) undef) := by
  have := World.cell?_setCells_in b vs o w hc (k - o) (by omega)
  have e : o + (k - o) = k := by omega
  rw [e] at this
  rw [this]
  simp [List.getD, show k - o < vs.length by omega]
theorem cells_out {b o : Nat} {vs : List Value} {k : Nat} (h1 : k < o ∨ o + vs.length ≤ k) : (w.setCells b o vs).cell? (ad b k) = w.cell? (ad b k) :=
  World.cell?_setCells_out b vs o w _ (fun _ _ => h1)

theorem shape_of_cell {b j : Nat} {v : Value} (hc : w.cell? (ad b j) = some v) : ∃ e S, w.shape? b = some (e, S) ∧ j < S := by
  unfold World.cell? at hc
  unfold World.shape?
  cases hh : w.heap[b]? with
  | none => rw [hh] at hc; cases hc
  | some ob =>
    rw [hh] at hc
    cases ob with
    | cells c e fr =>
      simp at hc
      obtain ⟨h1, _⟩ := Array.getElem?_eq_some_iff.1 hc
      exact ⟨e, c.size, rfl, h1⟩
    | _ => cases hc
theorem NoFrz.cell {b j : Nat} {v : Value} (hn : NoFrz w b) (hc : w.cell? (ad b j) = some v) : w.frozen? (ad b j) = false := by
  obtain ⟨e, S, h1, h2⟩ := shape_of_cell hc
  exact hn.at h1 h2

theorem getD_toList (a : Array Value) (j : Nat) : a.toList.getD j undef = a.getD j undef := by
  simp [List.getD, Array.getD_eq_getD_getElem?]

theorem cells_pos {x : AV} (hb : boxable x = true) : (cells x).length ≠ 0 := by
  cases x with
  | agg cs =>
    cases cs with
    | nil => cases hb
    | cons a r => simp [cells]
  | _ => simp [cells]

theorem store_ok {t : TypeId} {p x : AV} {up u : Value} {h' : AH} (hb : boxable x = true) (hsz : (cells x).length = P.cellsOf t) (hs : storeCs h p (cells x) = some h') (hp : VR w G Z p up) (hx : VR w G Z x u) (hr : HR w G Z h) :
    ∃ w' Z', (Instr.storeAt t up u).run P w = .ok () w' ∧ SR (fun _ => False) w G Z h w' G Z' h' := by
  obtain ⟨c1, c2, c3⟩ := cells_ok hb hx
  have h0 : u.cells.size ≠ 0 := by
    rw [← c1]
    exact cells_pos hb
  have hul : u.cells.toList.length = (cells x).length := by rw [c1]; simp
  cases p <;> simp only [storeCs] at hs <;> try cases hs
  · rename_i nm off
    cases hp with | ptr _ _ ni b o g1 g2 =>
    split at hs
    · rename_i cs hg
      split at hs
      · rename_i hle
        cases hs
        have hle' : off + (cells x).length ≤ cs.length := Nat.le_of_ble_eq_true hle
        obtain ⟨ni', q1, b', o', vs, q2, q3, q4, q5, q6⟩ := hr.blk nm _ hg
        rw [g1] at q1; cases q1
        rw [g2] at q2; cases q2
        have hcell : ∀ j, j < u.cells.size → w.cell? (ad b (o + off + j)) = some (vs (off + j)) := fun j hj => by
          rw [Nat.add_assoc]; exact q4.cell _ (by omega)
        have hex : ∀ j, j < u.cells.toList.length → (w.cell? (ad b (o + off + j))).isSome = true := fun j hj => by rw [hcell j (by omega)]; rfl
        have he := ext_setCells b u.cells.toList (o + off) w
        have hz : ∀ b', Z b' → ∀ (j : Nat), ¬ b' = b := fun b' hz _ e => by subst e; exact hr.zsep nm _ ni b' o hg rfl g1 g2 hz
        refine ⟨_, Z, run_storeAt (hsz ▸ c1.symm) h0 (fun j hj => by rw [hcell j hj]; rfl) (fun j hj => q5.cell (hcell j hj)) (fun j hj => c3 j (by omega)), SR.upd1 hr hg rfl g1 g2 he rfl ?_⟩
        have hlen : (cs.take off ++ (cells x ++ cs.drop (off + (cells x).length))).length = cs.length := by simp; omega
        refine ⟨b, o, fun j => if off ≤ j ∧ j < off + (cells x).length then u.cells.getD (j - off) undef else vs j, g2, by rw [hlen]; exact q3, ⟨fun j hj => ?_, fun j hj => ?_, fun j hj => ?_⟩, q5.mono he q6, Nat.lt_of_lt_of_le q6 he.size⟩
        · rw [hlen] at hj
          by_cases hin : off ≤ j ∧ j < off + (cells x).length
          · rw [if_pos hin, cells_in hex (by omega) (by omega), getD_toList]
            congr 2; omega
          · rw [if_neg hin, cells_out (by omega)]
            exact q4.cell j hj
        · rw [hlen] at hj
          by_cases hin : off ≤ j ∧ j < off + (cells x).length
          · rw [if_pos hin]; exact c3 _ (by omega)
          · rw [if_neg hin]; exact q4.one j hj
        · rw [hlen] at hj
          rw [getT_append, getT_append, getT_take, getT_drop]
          have e3 : (cs.take off).length = off := by simp; omega
          rw [e3]
          by_cases h1 : j < off
          · rw [if_pos h1, if_pos h1, if_neg (by omega)]
            exact (q4.vr j hj).mono he hz (fun _ _ h => h) (fun _ h => h)
          · rw [if_neg h1]
            by_cases h2 : j - off < (cells x).length
            · rw [if_pos h2, if_pos (by omega)]
              exact (c2 _ h2).mono he hz (fun _ _ h => h) (fun _ h => h)
            · rw [if_neg h2, if_neg (by omega)]
              have e4 : off + (cells x).length + (j - off - (cells x).length) = j := by omega
              rw [e4]
              exact (q4.vr j hj).mono he hz (fun _ _ h => h) (fun _ h => h)
      · cases hs
    · cases hs
  · rename_i nm i sub
    obtain ⟨Z1, s1⟩ := SR.frzL (cells x) hr
    have hr1 := s1.hr
    split at hs
    · rename_i c l hg
      split at hs
      · rename_i hle
        split at hs
        · rename_i x' hx'
          cases hs
          have hle' : sub + (cells x).length ≤ csz c := Nat.le_of_ble_eq_true hle
          have hp1 := s1.vr hr hp
          cases hp1 with | eptr _ _ _ ni b o g1 g2 g3 =>
          obtain ⟨ni', q1, q2, q3, q4⟩ := hr1.blk nm _ hg
          rw [g1] at q1; cases q1
          rcases q4 with ⟨q4, _⟩ | ⟨b', o', vs, r1, r2, r3, r4⟩
          · rw [g2] at q4; cases q4
          rw [g2] at r1; cases r1
          subst q2
          have hi : i < l.length := by omega
          have hcell : ∀ j, j < u.cells.size → w.cell? (ad b (o + i * csz ni.c + sub + j)) = some (vs i (sub + j)) := fun j hj => by
            have := r2.cell i hi (sub + j) (by omega)
            rwa [← Nat.add_assoc] at this
          have hex : ∀ j, j < u.cells.toList.length → (w.cell? (ad b (o + i * csz ni.c + sub + j))).isSome = true := fun j hj => by rw [hcell j (by omega)]; rfl
          have he := ext_setCells b u.cells.toList (o + i * csz ni.c + sub) w
          have hz : ∀ b', Z1 b' → ∀ (j : Nat), ¬ b' = b := fun b' hz _ e => by subst e; exact hr1.zsep nm _ ni b' o hg rfl g1 g2 hz
          have c2' : ∀ j, j < (cells x).length → VR w G Z1 (getT (cells x) j) (u.cells.getD j undef) := fun j hj => s1.vr hr (c2 j hj)
          have hel := enc_len ni.c (l.getD i (dflt ni.c))
          obtain ⟨d1, d2, d3⟩ := dec0_ok (us := fun j => if sub ≤ j ∧ j < sub + (cells x).length then u.cells.getD (j - sub) undef else vs i j) hx' (fun j hj => by
            have hj' : j < csz ni.c := by
              simp only [List.length_append, List.length_take, List.length_drop, hel] at hj
              omega
            rw [getT_append, getT_append, getT_take, getT_drop]
            have e3 : ((enc ni.c (l.getD i (dflt ni.c))).take sub).length = sub := by rw [List.length_take, hel]; omega
            rw [e3]
            by_cases h1 : j < sub
            · rw [if_pos h1, if_pos h1, if_neg (by omega)]
              exact r2.vr i hi j hj'
            · rw [if_neg h1]
              by_cases h2 : j - sub < (cells x).length
              · rw [if_pos h2, if_pos (by omega)]
                exact c2' _ h2
              · rw [if_neg h2, if_neg (by omega)]
                have e4 : sub + (cells x).length + (j - sub - (cells x).length) = j := by omega
                rw [e4]
                exact r2.vr i hi j hj') hr1
          refine ⟨_, Z1, run_storeAt (hsz ▸ c1.symm) h0 (fun j hj => by rw [hcell j hj]; rfl) (fun j hj => r3.cell (hcell j hj)) (fun j hj => c3 j (by omega)),
            (s1.trans (SR.upd1 (bl' := .row ni.c (l.set i x')) hr1 hg rfl g1 g2 he rfl ⟨rfl, by rw [List.length_set]; exact q3, .inr ⟨b, o, fun i' j => if i' = i then (if sub ≤ j ∧ j < sub + (cells x).length then u.cells.getD (j - sub) undef else vs i j) else vs i' j, g2, ⟨fun i' hi' j hj => ?_, fun i' hi' j hj => ?_⟩, r3.mono he r4, Nat.lt_of_lt_of_le r4 he.size⟩⟩)).weak fun n hn => hn.elim id id⟩
          · rw [List.length_set] at hi'
            by_cases e : i' = i
            · subst e
              rw [if_pos rfl]
              by_cases hin : sub ≤ j ∧ j < sub + (cells x).length
              · rw [if_pos hin, cells_in hex (by omega) (by omega), getD_toList]
                congr 2; omega
              · rw [if_neg hin, cells_out (by omega)]
                exact r2.cell i' hi' j hj
            · rw [if_neg e, cells_out]
              · exact r2.cell i' hi' j hj
              · rcases Nat.lt_or_gt_of_ne e with h1 | h1
                · left
                  have : (i' + 1) * csz ni.c ≤ i * csz ni.c := Nat.mul_le_mul_right _ (by omega)
                  rw [Nat.add_mul] at this
                  omega
                · right
                  have : (i + 1) * csz ni.c ≤ i' * csz ni.c := Nat.mul_le_mul_right _ (by omega)
                  rw [Nat.add_mul] at this
                  omega
          · rw [List.length_set] at hi'
            by_cases e : i' = i
            · subst e
              rw [if_pos rfl]
              have : (l.set i' x').getD i' (dflt ni.c) = x' := by simp [List.getD, hi']
              rw [this]
              exact (d3 j hj).mono he hz (fun _ _ h => h) (fun _ h => h)
            · rw [if_neg e]
              have : (l.set i x').getD i' (dflt ni.c) = l.getD i' (dflt ni.c) := by simp [List.getD, List.getElem?_set_ne (Ne.symm e)]
              rw [this]
              exact (r2.vr i' hi' j hj).mono he hz (fun _ _ h => h) (fun _ h => h)
        · cases hs
      · cases hs
    · cases hs
end
end Go.Eng

set_option linter.unusedVariables false
set_option linter.unusedSimpArgs false
namespace Go.Eng
open Go.RowKit

section
variable {P : Program} {w w' : World} {G : Gh} {Z : Nat → Prop} {h : AH} {tc : Nat → Cd}

/-- What is put behind, or over: its cells, counted through. -/
structure Src (P : Program) (w : World) (G : Gh) (Z : Nat → Prop) (c : Cd) (ys : List c.T) (u : Value) (vf : Nat → Value) : Prop where
  len : ∀ w, (Builtin.lenOf u).run P w = .ok ys.length w
  cells : ∀ n w1, n ≤ ys.length → (∀ a, w1.cell? a = w.cell? a) → (Builtin.firstCells (csz c) n u).run P w1 = .ok ((List.range (n * csz c)).map vf).toArray w1
  vr : ∀ i, i < ys.length → ∀ j, j < csz c → VR w G Z (getT (enc c (ys.getD i (dflt c))) j) (vf (i * csz c + j))

theorem div_mod_flat {s i j : Nat} (hj : j < s) : (i * s + j) / s = i ∧ (i * s + j) % s = j := by
  have hs : 0 < s := by omega
  constructor
  · rw [Nat.add_comm, Nat.add_mul_div_right _ _ hs, Nat.div_eq_of_lt hj, Nat.zero_add]
  · rw [Nat.add_comm, Nat.add_mul_mod_self_right, Nat.mod_eq_of_lt hj]

theorem SC.src {c : Cd} {ys : List c.T} {u : Value} {bw : Bool} (hs : SC w G Z bw c ys u) : ∃ vf, Src P w G Z c ys u vf := by
  obtain ⟨A, cap, rfl, h1, h2⟩ := hs
  have hcp := csz_pos c
  rcases h2 with rfl | ⟨b, o, vs, rfl, h3, _⟩
  · refine ⟨fun _ => undef, fun w => rfl, fun n w1 hn _ => ?_, fun i hi => by simp at hi⟩
    obtain rfl : n = 0 := by simpa using hn
    cases A with
    | none => simp [Builtin.firstCells]
    | some a => simp [Builtin.firstCells, loadCells, loadCellsFrom]
  · refine ⟨fun k => vs (k / csz c) (k % csz c), fun w => rfl, fun n w1 hn hw => ?_, fun i hi j hj => ?_⟩
    · simp only [Builtin.firstCells]
      refine run_loadCells w1 (ad b o) _ _ fun k hk => ?_
      rw [add_ad, hw]
      have hi : k / csz c < n := Nat.div_lt_of_lt_mul (by rw [Nat.mul_comm]; exact hk)
      have hj : k % csz c < csz c := Nat.mod_lt _ (by omega)
      have := h3.cell (k / csz c) (by omega) (k % csz c) hj
      have e : o + k / csz c * csz c + k % csz c = o + k := by
        have := Nat.div_add_mod k (csz c)
        rw [Nat.mul_comm] at this
        omega
      rwa [e] at this
    · have := div_mod_flat (i := i) hj
      rw [this.1, this.2]
      exact h3.vr i hi j hj

theorem srcL_ok {c : Cd} {y : AV} {u : Value} {ys : List c.T} {h' : AH} (hs : srcL h c y = some (ys, h')) (hy : VR w G Z y u) (hr : HR w G Z h) :
    ∃ Z' vf, SR (fun _ => False) w G Z h w G Z' h' ∧ Src P w G Z' c ys u vf := by
  unfold srcL at hs
  split at hs
  · rename_i s
    split at hs
    · rename_i l hl
      cases hs
      obtain ⟨e, rfl⟩ := castL_some hl
      subst e
      cases hy
      refine ⟨Z, fun k => .int .u8 ((s.getD k 0).toNat : Int), .refl hr, fun w => rfl, fun n w1 hn _ => ?_, fun i hi j hj => ?_⟩
      · simp only [Builtin.firstCells, csz, Nat.mul_one]
        simp only [Sem.run_pure]
        congr 1
        apply Array.ext'
        have hn' : n ≤ s.length := hn
        apply List.ext_getElem?
        intro k
        by_cases hk : k < n
        · have hk2 : k < s.length := by omega
          simp [hk, hk2, List.getD]
        · have : ¬ k < min n s.length := by omega
          simp [hk]
          omega
      · simp only [csz] at hj
        obtain rfl : j = 0 := by omega
        simp only [enc, encLeaf, getT, csz, Nat.mul_one, Nat.add_zero]
        exact .int _ _ (inR_u8.2 ⟨by omega, by have := UInt8.toNat_lt (s.getD i (dflt .u8)); omega⟩)
    · cases hs
  · rename_i nm c' off len
    split at hs
    · rename_i e _
      subst e
      split at hs
      · rename_i cs hcs
        split at hs
        · rename_i l hl
          cases hs
          obtain ⟨Z', s⟩ := SR.frzL cs hr
          have hcr : ∃ ni b o vs, G nm = some ni ∧ ni.blk = some (b, o) ∧ CR w G Z b o cs vs := by
            unfold expCs at hcs
            split at hcs
            · rename_i cs' hg; cases hcs
              obtain ⟨ni, q1, b, o, vs, q2, q3, q4, _⟩ := hr.blk nm _ hg
              exact ⟨ni, b, o, vs, q1, q2, q4⟩
            · rename_i cs' hg; cases hcs
              obtain ⟨ni, q1, b, o, vs, q2, q3, q4, _⟩ := hr.blk nm _ hg
              exact ⟨ni, b, o, vs, q1, q2, q4⟩
            · cases hcs
          obtain ⟨ni, b, o, vs, q1, q2, q3⟩ := hcr
          obtain ⟨i1, i2, i3⟩ := decN0_ok len _ (fun j => vs (off * csz c' + j)) ys hl (fun j hj => by
            simp only [List.length_drop] at hj
            rw [getT_drop]
            exact s.vr hr (q3.vr _ (by omega))) s.hr
          simp only [List.length_drop] at i2
          have hsc : SC w G Z' true c' ys u := by
            cases hy with
            | xown _ _ _ _ ni' b' o' cap h1 h2 h3 =>
              rw [q1] at h1; cases h1
              rw [q2] at h2; cases h2
              refine ⟨_, cap, by rw [i1], by omega, .inr ⟨_, _, fun i j => vs (off * csz c' + (i * csz c' + j)), rfl, ⟨fun i hi j hj => ?_, fun i hi j hj => ?_⟩, fun e => by cases e⟩⟩
              · have e : o + off * csz c' + i * csz c' + j = o + (off * csz c' + (i * csz c' + j)) := by omega
                rw [e]
                refine q3.cell _ ?_
                have : (i + 1) * csz c' ≤ len * csz c' := Nat.mul_le_mul_right _ (by omega)
                rw [Nat.add_mul] at this
                omega
              · exact i3 i (by omega) j hj
            | xown0 _ _ _ a =>
              have : ys = [] := List.eq_nil_of_length_eq_zero i1
              subst this
              exact ⟨a, 0, rfl, by simp, .inl rfl⟩
          obtain ⟨vf, hv⟩ := hsc.src (P := P)
          exact ⟨Z', vf, s, hv⟩
        · cases hs
      · cases hs
    · cases hs
  · split at hs
    · rename_i l hl
      cases hs
      obtain ⟨vf, hv⟩ := (decSl0_ok hl hy hr).src (P := P)
      exact ⟨Z, vf, .refl hr, hv⟩
    · cases hs
end
end Go.Eng

set_option linter.unusedVariables false
set_option linter.unusedSimpArgs false
namespace Go.Eng
open Go.RowKit

section
variable {P : Program} {w w' : World} {G : Gh} {Z : Nat → Prop} {h : AH} {tc : Nat → Cd}

theorem notInt_ok {t : TypeId} (h : notInt (P.underlying t) = true) : (∃ e, P.underlying t = some (.slice e)) ∨ P.underlying t = some .string := by
  unfold notInt at h
  split at h
  · exact .inl ⟨_, by assumption⟩
  · exact .inr (by assumption)
  · cases h

theorem rowOk_ok {e : TypeId} (h : rowOk P tc e = true) : ∃ i zv, P.info? e = some i ∧ i.zero = some zv ∧ (∀ w, (zeroValue e).run P w = .ok zv w) ∧ i.size = csz (tc e) ∧ zv.cells.size = csz (tc e) ∧
    i.bytes ≤ 32768 ∧ (tc e = .u8 → i.bytes ≤ 1) ∧ zeroCs P e = some (zv.cells.toList.map ofVal) := by
  unfold rowOk at h
  split at h
  · rename_i i z hi hz
    obtain ⟨zv, i', hi', hzv, hrun, rfl, hcl⟩ := zeroCs_ok hz
    rw [hi] at hi'; cases hi'
    simp only [Bool.and_eq_true] at h
    obtain ⟨h1, h2, h3⟩ := h
    have h1' : i.size = csz (tc e) := by simpa using h1
    have h2' : zv.cells.size = csz (tc e) := by simpa using h2
    have h3' := Nat.le_of_ble_eq_true h3
    refine ⟨i, zv, hi, hzv, hrun, h1', h2', ?_, fun e => ?_, hz⟩
    · split at h3' <;> omega
    · rw [e] at h3'; exact h3'
  · cases h

theorem run_app_room {t t2 ty e : TypeId} (hu : P.underlying t = some (.slice e)) (h2 : notInt (P.underlying t2) = true) {i : TypeInfo} (hi : P.info? e = some i) {c : Cd} (hs : i.size = csz c)
    {base : Option Addr} {sLen sCap : Nat} {u : Value} {ys : List c.T} {vf : Nat → Value} (hsrc : Src P w G Z c ys u vf) (hroom : sLen + ys.length ≤ sCap) :
    (Builtin.append_ #[t, t2] ty #[.slice base sLen sCap, u]).run P w = match base with
      | some a => ((storeCells (a.add (sLen * csz c)) ((List.range (ys.length * csz c)).map vf)).run P w).andThen fun _ w => .ok (.slice (some a) (sLen + ys.length) sCap) w
      | none => .ok (.slice none (sLen + ys.length) sCap) w := by
  have hl := hsrc.len w
  have hc := hsrc.cells ys.length w (Nat.le_refl _) (fun _ => rfl)
  rcases notInt_ok h2 with ⟨e2, hd2⟩ | hd2 <;> cases base <;> simp [Builtin.append_, run_und hu, run_und hd2, sizeOf, typeInfo, hi, hs, hl, hroom, hc]

theorem run_app_grow {t t2 ty e : TypeId} (hu : P.underlying t = some (.slice e)) (h2 : notInt (P.underlying t2) = true) {i : TypeInfo} (hi : P.info? e = some i) {zv : Value} (hz : i.zero = some zv) {c : Cd} (hs : i.size = csz c)
    {base : Option Addr} {sLen sCap : Nat} {u : Value} {ys : List c.T} {vf : Nat → Value} (hsrc : Src P w G Z c ys u vf) (hgrow : sCap < sLen + ys.length)
    {olds : Array Value} (hold : (Builtin.firstCells (csz c) sLen (.slice base sLen sCap)).run P w.drew = .ok olds w.drew)
    (hlen : sLen + ys.length ≤ 140737488355328) (hbytes : (sLen + ys.length) * i.bytes ≤ 140737488355328) :
    (Builtin.append_ #[t, t2] ty #[.slice base sLen sCap, u]).run P w = .ok (.slice (some (ad w.heap.size 0)) (sLen + ys.length) (grownCap w (sLen + ys.length) sCap e))
      (w.drew.alloc (.cells (olds ++ ((List.range (ys.length * csz c)).map vf).toArray ++ Builtin.zeroCells zv.cells (grownCap w (sLen + ys.length) sCap e - (sLen + ys.length))) e)) := by
  have hl := hsrc.len w
  have hc := hsrc.cells ys.length w.drew (Nat.le_refl _) (fun _ => rfl)
  have hroom : ¬ (sLen + ys.length ≤ sCap) := by omega
  have h63' : ¬ (9223372036854775807 < ((sLen : Int) + (ys.length : Int))) := by omega
  have hfit := growslice_fits hgrow hbytes
  have h48' : ¬ (281474976710656 < Builtin.nextslicecap (sLen + ys.length) sCap * i.bytes) := by omega
  rcases notInt_ok h2 with ⟨e2, hd2⟩ | hd2 <;> simp [Builtin.append_, run_und hu, run_und hd2, sizeOf, typeInfo, zeroValue, hi, hz, hs, hl, hroom, h63', h48', Question.forced, hc, hold, newRow, grownCap]
end
end Go.Eng

set_option linter.unusedVariables false
set_option linter.unusedSimpArgs false
namespace Go.Eng
open Go.RowKit

section
variable {P : Program} {w w' : World} {G : Gh} {Z : Nat → Prop} {h : AH} {tc : Nat → Cd}

theorem lenOk_ok {e : TypeId} {i : TypeInfo} {a b : Nat} (h : lenOk a b (tc e) = true) (h1 : i.bytes ≤ 32768) (h2 : tc e = .u8 → i.bytes ≤ 1) :
    a + b ≤ 140737488355328 ∧ (a + b) * i.bytes ≤ 140737488355328 := by
  unfold lenOk at h
  have h' := of_decide_eq_true h
  unfold capOf at h'
  split at h'
  · rename_i he
    have := h2 he
    refine ⟨h', ?_⟩
    calc (a + b) * i.bytes ≤ (a + b) * 1 := Nat.mul_le_mul_left _ this
      _ ≤ _ := by omega
  · refine ⟨by omega, ?_⟩
    calc (a + b) * i.bytes ≤ 4294967296 * 32768 := Nat.mul_le_mul h' h1
      _ ≤ _ := by omega

/-- The cells of two sources, one behind the other. -/
theorem two_cells {c : Cd} {n m : Nat} {vf0 vf : Nat → Value} (zs : Array Value) {i j : Nat} (hj : j < csz c) (hi : i < n + m) :
    (((List.range (n * csz c)).map vf0).toArray ++ ((List.range (m * csz c)).map vf).toArray ++ zs)[i * csz c + j]? = some (if i < n then vf0 (i * csz c + j) else vf ((i - n) * csz c + j)) := by
  by_cases h : i < n
  · have h1 : i * csz c + j < n * csz c := by
      have : (i + 1) * csz c ≤ n * csz c := Nat.mul_le_mul_right _ (by omega)
      rw [Nat.add_mul] at this
      omega
    rw [if_pos h, Array.getElem?_append_left (by simp; omega), Array.getElem?_append_left (by simpa using h1)]
    simp [h1]
  · have h1 : i * csz c = n * csz c + (i - n) * csz c := by rw [← Nat.add_mul]; congr 1; omega
    have h2 : (i - n) * csz c + j < m * csz c := by
      have : (i - n + 1) * csz c ≤ m * csz c := Nat.mul_le_mul_right _ (by omega)
      rw [Nat.add_mul] at this
      omega
    rw [if_neg h, Array.getElem?_append_left (by simp; omega), Array.getElem?_append_right (by simp; omega)]
    have e : i * csz c + j - ((List.range (n * csz c)).map vf0).toArray.size = (i - n) * csz c + j := by simp; omega
    rw [e]
    simp [h2]

theorem two_vr {c : Cd} {xs ys : List c.T} {ux uy : Value} {vf0 vf : Nat → Value} (s0 : Src P w G Z c xs ux vf0) (s1 : Src P w G Z c ys uy vf) {i j : Nat} (hj : j < csz c) (hi : i < (xs ++ ys).length) :
    VR w G Z (getT (enc c ((xs ++ ys).getD i (dflt c))) j) (if i < xs.length then vf0 (i * csz c + j) else vf ((i - xs.length) * csz c + j)) := by
  rw [List.length_append] at hi
  by_cases h : i < xs.length
  · rw [if_pos h]
    have e : (xs ++ ys).getD i (dflt c) = xs.getD i (dflt c) := by simp [List.getD, List.getElem?_append_left h]
    rw [e]
    exact s0.vr i h j hj
  · rw [if_neg h]
    have e : (xs ++ ys).getD i (dflt c) = ys.getD (i - xs.length) (dflt c) := by simp [List.getD, List.getElem?_append_right (by omega : xs.length ≤ i)]
    rw [e]
    exact s1.vr _ (by omega) j hj

theorem ext_drew_alloc (w : World) (o : Obj) : Ext (fun _ _ => False) w (w.drew.alloc o) := (ext_drew w).trans (ext_alloc w.drew o) fun _ _ _ h => h

/-- A new array, with a name. -/
theorem grow_row (hr : HR w G Z h) {nb : Nat} (hG : G nb = none) {t t2 ty e : TypeId} (hu : P.underlying t = some (.slice e)) (h2 : notInt (P.underlying t2) = true) (hro : rowOk P tc e = true)
    {base : Option Addr} {sCap : Nat} {uy : Value} {xs ys : List (tc e).T} {vf0 vf : Nat → Value} (s0 : Src P w G Z (tc e) xs (.slice base xs.length sCap) vf0) (s1 : Src P w G Z (tc e) ys uy vf)
    (hgrow : sCap < xs.length + ys.length) (hlen : lenOk xs.length ys.length (tc e) = true) :
    ∃ u w' G', (Builtin.append_ #[t, t2] ty #[.slice base xs.length sCap, uy]).run P w = .ok u w' ∧ VR w' G' Z (.own nb (tc e) 0 (xs.length + ys.length) true) u ∧
      SR (· = nb) w G Z h w' G' Z (hset h nb (.row (tc e) (xs ++ ys))) := by
  obtain ⟨i, zv, hi, hz, hrun, hs, hzs, hb1, hb2, _⟩ := rowOk_ok hro
  obtain ⟨l1, l2⟩ := lenOk_ok hlen hb1 hb2
  have hold := s0.cells xs.length w.drew (Nat.le_refl _) (fun _ => rfl)
  have hr1 := run_app_grow (ty := ty) hu h2 hi hz hs s1 hgrow hold l1 l2
  have hge := grownCap_ge w (xs.length + ys.length) sCap e
  refine ⟨_, _, _, hr1, ?_, SR.drew (new_row (w := w.drew) hr.drew hG (vs := fun i j => if i < xs.length then vf0 (i * csz (tc e) + j) else vf ((i - xs.length) * csz (tc e) + j)) e (0, 0) (.inl rfl) (fun i hi j hj => ?_) (fun i hi j hj => ?_))⟩
  · rw [List.length_append]
    exact own_new (w := w.drew.alloc _) hge (shape_new w.drew _ e (0, 0)) (by
      simp only [Array.size_append, List.size_toArray, List.length_map, List.length_range, size_zeroCells, hzs, ← Nat.add_mul]
      exact Nat.mul_le_mul_right _ (by omega))
  · exact two_cells _ hj (by simpa using hi)
  · exact (two_vr s0 s1 hj hi).mono (ext_drew w) (fun _ _ _ h => h) (fun _ _ h => h) (fun _ h => h)

/-- A new array that is never written again. -/
theorem grow_imm (hr : HR w G Z h) {t t2 ty e : TypeId} (hu : P.underlying t = some (.slice e)) (h2 : notInt (P.underlying t2) = true) (hro : rowOk P tc e = true)
    {base : Option Addr} {sCap : Nat} {uy : Value} {xs ys : List (tc e).T} {vf0 vf : Nat → Value} (s0 : Src P w G Z (tc e) xs (.slice base xs.length sCap) vf0) (s1 : Src P w G Z (tc e) ys uy vf)
    (hgrow : sCap < xs.length + ys.length) (hlen : lenOk xs.length ys.length (tc e) = true) :
    ∃ u w' Z', (Builtin.append_ #[t, t2] ty #[.slice base xs.length sCap, uy]).run P w = .ok u w' ∧ VR w' G Z' (.imm (tc e) (xs ++ ys)) u ∧
      SR (fun _ => False) w G Z h w' G Z' h := by
  obtain ⟨i, zv, hi, hz, hrun, hs, hzs, hb1, hb2, _⟩ := rowOk_ok hro
  obtain ⟨l1, l2⟩ := lenOk_ok hlen hb1 hb2
  have hold := s0.cells xs.length w.drew (Nat.le_refl _) (fun _ => rfl)
  have hr1 := run_app_grow (ty := ty) hu h2 hi hz hs s1 hgrow hold l1 l2
  have hge := grownCap_ge w (xs.length + ys.length) sCap e
  have he := ext_drew_alloc w (.cells (((List.range (xs.length * csz (tc e))).map vf0).toArray ++ ((List.range (ys.length * csz (tc e))).map vf).toArray ++ Builtin.zeroCells zv.cells (grownCap w (xs.length + ys.length) sCap e - (xs.length + ys.length))) e)
  have hzm : ∀ b, Z b → (Z b ∨ b = w.heap.size) := fun b h => .inl h
  refine ⟨_, _, fun b => Z b ∨ b = w.heap.size, hr1, ?_, ?_⟩
  · have := VR.imm (w := w.drew.alloc (.cells (((List.range (xs.length * csz (tc e))).map vf0).toArray ++ ((List.range (ys.length * csz (tc e))).map vf).toArray ++ Builtin.zeroCells zv.cells (grownCap w (xs.length + ys.length) sCap e - (xs.length + ys.length))) e)) (G := G) (Z := fun b => Z b ∨ b = w.heap.size) (tc e) (xs ++ ys) w.heap.size 0 (grownCap w (xs.length + ys.length) sCap e)
      (fun i j => if i < xs.length then vf0 (i * csz (tc e) + j) else vf ((i - xs.length) * csz (tc e) + j)) (.inr rfl) (by simpa using hge) (fun i hi j hj => by
        rw [Nat.zero_add]
        have := cell_new w.drew (((List.range (xs.length * csz (tc e))).map vf0).toArray ++ ((List.range (ys.length * csz (tc e))).map vf).toArray ++ Builtin.zeroCells zv.cells (grownCap w (xs.length + ys.length) sCap e - (xs.length + ys.length))) e (0, 0) (i * csz (tc e) + j)
        rw [two_cells _ hj (by simpa using hi)] at this
        exact this) (fun i hi j hj => (two_vr s0 s1 hj hi).mono he (fun _ _ _ h => h) (fun _ _ h => h) hzm)
    rw [List.length_append] at this
    exact this
  · refine ⟨he.mono fun _ _ _ h => h.elim, fun _ _ h => h, fun _ _ h => .inl h, hzm, ?_, fun nm bl ni b o h1 h2 h3 => .inr ⟨nm, bl, ni, o, h1, h2, h3, id⟩, fun nm bl h => .inl ⟨bl, h⟩, ?_⟩
    · rintro b (hb | rfl)
      · exact .inl hb
      · exact .inr (.inl (Nat.le_refl _))
    · refine ⟨fun nm bl hh => ?_, hr.sep, fun n bn ni b o h1 h2 h3 h4 h5 => ?_, ?_⟩
      · obtain ⟨ni, q1, q2⟩ := hr.blk nm bl hh
        exact ⟨ni, q1, q2.mono he (fun _ _ _ h => h) (fun _ _ h => h) hzm (fun _ _ _ _ h => h)⟩
      · rcases h5 with h5 | rfl
        · exact hr.zsep n bn ni b o h1 h2 h3 h4 h5
        · obtain ⟨ni', q1, q2⟩ := hr.blk n bn h1
          rw [h3] at q1; cases q1
          have := q2.lt h4
          omega
      · rintro b (hb | rfl)
        · exact Nat.lt_of_lt_of_le (hr.zlt b hb) he.size
        · simp
end
end Go.Eng

set_option linter.unusedVariables false
set_option linter.unusedSimpArgs false
namespace Go.Eng
open Go.RowKit

section
variable {P : Program} {w w' : World} {G : Gh} {Z : Nat → Prop} {h : AH} {tc : Nat → Cd}

theorem cell_of_shape {b k S : Nat} {e : TypeId} (hs : w.shape? b = some (e, S)) (hk : k < S) : ∃ v, w.cell? (ad b k) = some v := by
  unfold World.shape? at hs
  unfold World.cell?
  split at hs
  · rename_i c el fr hc
    cases hs
    simp only [hc]
    exact ⟨c[k], by simp [hk]⟩
  · cases hs

/-- Nothing is there yet. -/
theorem app_empty (hr : HR w G Z h) {nb : Nat} (hG : G nb = none) {t t2 ty e : TypeId} (hu : P.underlying t = some (.slice e)) (h2 : notInt (P.underlying t2) = true) (hro : rowOk P tc e = true)
    {base : Option Addr} {uy : Value} {ys : List (tc e).T} {vf : Nat → Value} (s1 : Src P w G Z (tc e) ys uy vf) (hlen : lenOk 0 ys.length (tc e) = true) :
    ∃ u w' G', (Builtin.append_ #[t, t2] ty #[.slice base 0 0, uy]).run P w = .ok u w' ∧ VR w' G' Z (.own nb (tc e) 0 ys.length true) u ∧ SR (· = nb) w G Z h w' G' Z (hset h nb (.row (tc e) ys)) := by
  obtain ⟨i, zv, hi, hz, hrun, hs, hzs, hb1, hb2, _⟩ := rowOk_ok hro
  by_cases hm : ys.length = 0
  · obtain rfl : ys = [] := List.eq_nil_of_length_eq_zero hm
    refine ⟨.slice base 0 0, w, upd G nb ⟨none, 0, tc e⟩, ?_, .own0 nb (tc e) 0 true _ base (upd_same _ _ _) rfl (Nat.le_refl _) (fun _ => rfl), SR.add hr (.refl _ _) hG ⟨rfl, rfl, .inl ⟨rfl, rfl⟩⟩ (fun b o hb => by cases hb)⟩
    rw [run_app_room (ty := ty) hu h2 hi hs s1 (by simp)]
    cases base with
    | none => rfl
    | some a => simp [storeCells]
  · obtain ⟨vf0, s0⟩ := (imm_SC (bw := true) (VR.imm0 (w := w) (G := G) (Z := Z) (tc e) base 0)).src (P := P)
    have := grow_row (ty := ty) hr hG hu h2 hro s0 s1 (by simp; omega) hlen
    simpa using this

theorem appOwn_ok (hr : HR w G Z h) {nb : Nat} (hG : G nb = none) {t t2 ty e : TypeId} (hu : P.underlying t = some (.slice e)) (h2 : notInt (P.underlying t2) = true) (hro : rowOk P tc e = true)
    {ux uy : Value} {ys l : List (tc e).T} {vf : Nat → Value} (s1 : Src P w G Z (tc e) ys uy vf) {nm off len : Nat} {c : Cd} (hx : VR w G Z (.own nm c off len true) ux) (hg : hget h nm = some (.row (tc e) l))
    (hlen : lenOk len ys.length (tc e) = true) :
    ∃ u w' G', (Builtin.append_ #[t, t2] ty #[ux, uy]).run P w = .ok u w' ∧ VR w' G' Z (.own nb (tc e) 0 (len + ys.length) true) u ∧ SR (· = nb) w G Z h w' G' Z (hset (hdel h nm) nb (.row (tc e) (l.drop off ++ ys))) := by
  obtain ⟨i, zv, hi, hz, hrun, hs, hzs, hb1, hb2, _⟩ := rowOk_ok hro
  have hd := SR.del hr nm
  have hsc := own_SC (bw := true) (l := l) hr (by simp [rowL, hg, castL]) hx
  obtain ⟨ni, q1, q2, q3, q4⟩ := hr.blk nm _ hg
  cases hx with
  | own0 _ _ _ _ ni' a g1 g2 g3 g4 =>
    rw [q1] at g1; cases g1
    have he : l.drop off = [] := by
      have := g4 rfl
      simp; omega
    rw [he]
    have := app_empty (ty := ty) (base := a) hd.hr hG hu h2 hro s1 hlen
    obtain ⟨u, w', G', r1, r2, r3⟩ := this
    refine ⟨u, w', G', r1, by simpa using r2, (hd.trans r3).weak fun n hn => hn.elim False.elim id⟩
  | own _ _ _ _ _ ni' b o cap e1 S g1 g2 g3 g4 g5 g6 g7 g8 =>
    rw [q1] at g1; cases g1
    rw [q2] at g3; subst g3
    have hll : off + len = l.length := by rw [← q3]; exact g5 rfl
    have hxs : (l.drop off).take len = l.drop off := List.take_of_length_le (by simp; omega)
    have hxl : (l.drop off).length = len := by simp; omega
    rw [hxs] at hsc
    by_cases hroom : len + ys.length ≤ cap
    · rcases q4 with ⟨q4, _⟩ | ⟨b', o', vs, r1, r2, r3, r4⟩
      · rw [g2] at q4; cases q4
      rw [g2] at r1; cases r1
      have hnl : ((List.range (ys.length * csz (tc e))).map vf).length = ys.length * csz (tc e) := by simp
      have hbound : ∀ k, k < ys.length * csz (tc e) → o + off * csz (tc e) + len * csz (tc e) + k < S := by
        intro k hk
        have h1 : (off + cap) * csz (tc e) = off * csz (tc e) + cap * csz (tc e) := Nat.add_mul _ _ _
        have h3 : (len + ys.length) * csz (tc e) ≤ cap * csz (tc e) := Nat.mul_le_mul_right _ hroom
        rw [Nat.add_mul] at h3
        omega
      have hone : ∀ v ∈ (List.range (ys.length * csz (tc e))).map vf, v.oneCell' = true := by
        intro v hv
        obtain ⟨k, hk, rfl⟩ := List.mem_map.1 hv
        have hk' : k < ys.length * csz (tc e) := by simpa using hk
        have hcp := csz_pos (tc e)
        have e2 : k / csz (tc e) * csz (tc e) + k % csz (tc e) = k := by
          have := Nat.div_add_mod k (csz (tc e)); rw [Nat.mul_comm] at this; exact this
        have hj : k % csz (tc e) < csz (tc e) := Nat.mod_lt _ (by omega)
        have := s1.vr (k / csz (tc e)) (Nat.div_lt_of_lt_mul (by rw [Nat.mul_comm]; exact hk')) (k % csz (tc e)) hj
        rw [e2] at this
        exact enc_one hj this
      have hst := run_storeCells_cells (P := P) b (o + off * csz (tc e) + len * csz (tc e)) ((List.range (ys.length * csz (tc e))).map vf) 0 w (fun j hj => by
          obtain ⟨v, hv⟩ := cell_of_shape (k := o + off * csz (tc e) + len * csz (tc e) + j) g7 (hbound j (by omega))
          simp only [Nat.add_zero]
          show (w.cell? (ad b _)).isSome = true
          rw [hv]; rfl) (fun j hj => by
          simp only [Nat.add_zero]
          exact r3.at g7 (hbound j (by omega))) hone
      rw [Nat.add_zero] at hst
      have he := ext_setCells b ((List.range (ys.length * csz (tc e))).map vf) (o + off * csz (tc e) + len * csz (tc e)) w
      have hz' : ∀ b', Z b' → ∀ (j : Nat), ¬ b' = b := fun b' hz _ e => by subst e; exact hr.zsep nm _ ni b' o hg rfl q1 g2 hz
      have hex : ∀ j, j < ((List.range (ys.length * csz (tc e))).map vf).length → (w.cell? (ad b (o + off * csz (tc e) + len * csz (tc e) + j))).isSome = true := fun j hj => by
        obtain ⟨v, hv⟩ := cell_of_shape (k := o + off * csz (tc e) + len * csz (tc e) + j) g7 (hbound j (by omega))
        rw [hv]; rfl
      refine ⟨.slice (some (ad b (o + off * csz (tc e)))) (len + ys.length) cap, _, upd G nb ⟨some (b, o + off * csz (tc e)), len + ys.length, tc e⟩, ?_, ?_,
        SR.upd (o' := o + off * csz (tc e)) hr hg rfl q1 g2 he (.inr hG) rfl rfl ⟨rfl, by simp; omega, .inr ⟨b, o + off * csz (tc e), fun i j => if i < len then vs (off + i) j else vf ((i - len) * csz (tc e) + j), rfl, ⟨fun i hi j hj => ?_, fun i hi j hj => ?_⟩, r3.mono he r4, Nat.lt_of_lt_of_le r4 he.size⟩⟩⟩
      · rw [run_app_room (ty := ty) hu h2 hi hs s1 hroom]
        simp only [add_ad, hst, Result.andThen_ok]
      · have := VR.own (w := w.setCells b (o + off * csz (tc e) + len * csz (tc e)) ((List.range (ys.length * csz (tc e))).map vf)) (G := upd G nb ⟨some (b, o + off * csz (tc e)), len + ys.length, tc e⟩) (Z := Z) nb (tc e) 0 (len + ys.length) true _ b (o + off * csz (tc e)) cap e1 S (upd_same _ _ _) rfl rfl (by simp) (fun _ => by simp) hroom
          ((he.shp b r4).trans g7) (by
            have h1 : (off + cap) * csz (tc e) = off * csz (tc e) + cap * csz (tc e) := Nat.add_mul _ _ _
            rw [Nat.zero_add]; omega)
        simpa using this
      · rw [List.length_append, hxl] at hi
        by_cases h1 : i < len
        · rw [if_pos h1, cells_out]
          · have := r2.cell (off + i) (by omega) j hj
            rw [Nat.add_mul] at this
            have e3 : o + off * csz (tc e) + i * csz (tc e) + j = o + (off * csz (tc e) + i * csz (tc e)) + j := by omega
            rw [e3]; exact this
          · left
            have : (i + 1) * csz (tc e) ≤ len * csz (tc e) := Nat.mul_le_mul_right _ (by omega)
            rw [Nat.add_mul] at this
            omega
        · have h3 : i * csz (tc e) = len * csz (tc e) + (i - len) * csz (tc e) := by rw [← Nat.add_mul]; congr 1; omega
          have h4 : (i - len) * csz (tc e) + j < ys.length * csz (tc e) := by
            have : (i - len + 1) * csz (tc e) ≤ ys.length * csz (tc e) := Nat.mul_le_mul_right _ (by omega)
            rw [Nat.add_mul] at this
            omega
          rw [if_neg h1, cells_in hex (by omega) (by rw [hnl]; omega)]
          have e3 : o + off * csz (tc e) + i * csz (tc e) + j - (o + off * csz (tc e) + len * csz (tc e)) = (i - len) * csz (tc e) + j := by omega
          rw [e3]
          simp [List.getD, h4]
      · rw [List.length_append, hxl] at hi
        by_cases h1 : i < len
        · rw [if_pos h1]
          have e3 : (l.drop off ++ ys).getD i (dflt (tc e)) = l.getD (off + i) (dflt (tc e)) := by
            simp [List.getD, List.getElem?_append_left (show i < (l.drop off).length by omega), List.getElem?_drop]
          rw [e3]
          exact (r2.vr (off + i) (by omega) j hj).mono he hz' (upd_mono hG) (fun _ h => h)
        · rw [if_neg h1]
          have e3 : (l.drop off ++ ys).getD i (dflt (tc e)) = ys.getD (i - len) (dflt (tc e)) := by
            simp [List.getD, List.getElem?_append_right (show (l.drop off).length ≤ i by omega), hxl]
          rw [e3]
          exact (s1.vr _ (by omega) j hj).mono he hz' (upd_mono hG) (fun _ h => h)
    · obtain ⟨vf0, s0⟩ := hsc.src (P := P)
      rw [← hxl] at s0 hroom hlen ⊢
      have := grow_row (ty := ty) hd.hr hG hu h2 hro s0 s1 (by omega) hlen
      obtain ⟨u, w', G', r1, r2, r3⟩ := this
      exact ⟨u, w', G', r1, r2, (hd.trans r3).weak fun n hn => hn.elim False.elim id⟩
end
end Go.Eng

set_option linter.unusedVariables false
set_option linter.unusedSimpArgs false
namespace Go.Eng
open Go.RowKit

section
variable {P : Program} {w w' : World} {G : Gh} {Z : Nat → Prop} {h : AH} {tc : Nat → Cd}

theorem opAppend_ok (hr : HR w G Z h) {nb : Nat} (hG : G nb = none) {t t2 ty e : TypeId} (hu : P.underlying t = some (.slice e)) (h2 : notInt (P.underlying t2) = true) (hro : rowOk P tc e = true)
    {x y v : AV} {h' : AH} {ux uy : Value} (hx : VR w G Z x ux) (hy : VR w G Z y uy) (ha : opAppend tc h nb e x y = some (true, v, h')) :
    ∃ u w' G' Z', (Builtin.append_ #[t, t2] ty #[ux, uy]).run P w = .ok u w' ∧ VR w' G' Z' v u ∧ SR (· = nb) w G Z h w' G' Z' h' := by
  unfold opAppend at ha
  split at ha
  · cases ha
  · rename_i ys h1 hsrc
    obtain ⟨Z1, vf, s0, s1⟩ := srcL_ok (P := P) hsrc hy hr
    have hx1 := s0.vr hr hx
    have hr1 := s0.hr
    have fin : ∀ {v : AV} {h' : AH}, (∃ u w' G', (Builtin.append_ #[t, t2] ty #[ux, uy]).run P w = .ok u w' ∧ VR w' G' Z1 v u ∧ SR (· = nb) w G Z1 h1 w' G' Z1 h') →
        ∃ u w' G' Z', (Builtin.append_ #[t, t2] ty #[ux, uy]).run P w = .ok u w' ∧ VR w' G' Z' v u ∧ SR (· = nb) w G Z h w' G' Z' h' := by
      rintro v h' ⟨u, w', G', r1, r2, r3⟩
      exact ⟨u, w', G', Z1, r1, r2, (s0.trans r3).weak fun n hn => hn.elim False.elim id⟩
    split at ha
    · simp only [Option.some.injEq, Prod.mk.injEq] at ha
      obtain ⟨hl, rfl, rfl⟩ := ha
      cases hx1
      exact fin (app_empty hr1 hG hu h2 hro s1 hl)
    · simp only [Option.some.injEq, Prod.mk.injEq] at ha
      obtain ⟨hl, rfl, rfl⟩ := ha
      cases hx1
      exact fin (app_empty hr1 hG hu h2 hro s1 hl)
    · rename_i nm c off len
      split at ha
      · rename_i c' l hg
        split at ha
        · rename_i l' hc
          simp only [Option.some.injEq, Prod.mk.injEq] at ha
          obtain ⟨hl, rfl, rfl⟩ := ha
          obtain ⟨e1, e2⟩ := castL_some hc
          subst e1
          subst e2
          exact fin (appOwn_ok hr1 hG hu h2 hro s1 hx1 hg hl)
        · cases ha
      · cases ha
    · rename_i c l
      split at ha
      · rename_i l' hc
        simp only [Option.some.injEq, Prod.mk.injEq] at ha
        obtain ⟨hl, rfl, rfl⟩ := ha
        obtain ⟨e1, e2⟩ := castL_some hc
        subst e1
        have e3 : l' = l := e2
        subst e3
        obtain ⟨i, zv, hi, hz, hrun, hs, hzs, hb1, hb2, _⟩ := rowOk_ok hro
        have hcap : ∃ A, ux = .slice A l'.length l'.length := by
          cases hx1 with
          | clip => exact ⟨_, rfl⟩
          | clip0 => exact ⟨_, rfl⟩
        have him := clip_imm hx1
        obtain ⟨A, rfl⟩ := hcap
        by_cases hm : ys.length = 0
        · have hn : ys = [] := List.eq_nil_of_length_eq_zero hm
          refine ⟨.slice A l'.length l'.length, w, G, Z1, ?_, by rw [hn, List.append_nil]; exact him, s0.weak fun n hn => hn.elim⟩
          rw [run_app_room (ty := ty) hu h2 hi hs s1 (by omega), hn]
          cases A with
          | none => rfl
          | some a => simp [storeCells]
        · obtain ⟨vf0, s2⟩ := (imm_SC (bw := true) him).src (P := P)
          obtain ⟨u, w', Z', r1, r2, r3⟩ := grow_imm (ty := ty) hr1 hu h2 hro s2 s1 (by omega) hl
          exact ⟨u, w', G, Z', r1, r2, (s0.trans r3).weak fun n hn => (hn.elim id id).elim⟩
      · cases ha
    · cases ha
end
end Go.Eng

set_option linter.unusedVariables false
set_option linter.unusedSimpArgs false
namespace Go.Eng
open Go.RowKit

section
variable {P : Program} {w w' : World} {G : Gh} {Z : Nat → Prop} {h : AH} {tc : Nat → Cd}

/-- Elements of a row are written over: a list from a place on. -/
theorem over_row (hr : HR w G Z h) {nm : Nat} {c : Cd} {l ys : List c.T} (hg : hget h nm = some (.row c l)) {ni : NI} (hn : G nm = some ni) {b o off : Nat} (hbk : ni.blk = some (b, o)) (hle : off + ys.length ≤ l.length)
    {vf : Nat → Value} (hv : ∀ i, i < ys.length → ∀ j, j < csz c → VR w G Z (getT (enc c (ys.getD i (dflt c))) j) (vf (i * csz c + j))) :
    (storeCells (ad b (o + off * csz c)) ((List.range (ys.length * csz c)).map vf)).run P w = .ok () (w.setCells b (o + off * csz c) ((List.range (ys.length * csz c)).map vf)) ∧
    SR (fun _ => False) w G Z h (w.setCells b (o + off * csz c) ((List.range (ys.length * csz c)).map vf)) G Z (hset h nm (.row c (l.take off ++ (ys ++ l.drop (off + ys.length))))) := by
  obtain ⟨ni', q1, q2, q3, q4⟩ := hr.blk nm _ hg
  rw [hn] at q1; cases q1
  rcases q4 with ⟨q4, _⟩ | ⟨b', o', vs, r1, r2, r3, r4⟩
  · rw [hbk] at q4; cases q4
  rw [hbk] at r1; cases r1
  have hcp := csz_pos c
  have hdm : ∀ k, k / csz c * csz c + k % csz c = k := fun k => by
    have := Nat.div_add_mod k (csz c); rw [Nat.mul_comm] at this; exact this
  have hnl : ((List.range (ys.length * csz c)).map vf).length = ys.length * csz c := by simp
  have hcell : ∀ k, k < ys.length * csz c → w.cell? (ad b (o + off * csz c + k)) = some (vs (off + k / csz c) (k % csz c)) := by
    intro k hk
    have hi : k / csz c < ys.length := Nat.div_lt_of_lt_mul (by rw [Nat.mul_comm]; exact hk)
    have := r2.cell (off + k / csz c) (by omega) (k % csz c) (Nat.mod_lt _ (by omega))
    have e1 := hdm k
    rw [Nat.add_mul] at this
    have e2 : o + (off * csz c + k / csz c * csz c) + k % csz c = o + off * csz c + k := by omega
    rwa [e2] at this
  have hone : ∀ v ∈ (List.range (ys.length * csz c)).map vf, v.oneCell' = true := by
    intro v hv'
    obtain ⟨k, hk, rfl⟩ := List.mem_map.1 hv'
    have hk' : k < ys.length * csz c := by simpa using hk
    have hj : k % csz c < csz c := Nat.mod_lt _ (by omega)
    have := hv (k / csz c) (Nat.div_lt_of_lt_mul (by rw [Nat.mul_comm]; exact hk')) (k % csz c) hj
    rw [hdm k] at this
    exact enc_one hj this
  have hex : ∀ j, j < ((List.range (ys.length * csz c)).map vf).length → (w.cell? (ad b (o + off * csz c + j))).isSome = true := fun j hj => by
    rw [hcell j (by omega)]; rfl
  have hst := run_storeCells_cells (P := P) b (o + off * csz c) ((List.range (ys.length * csz c)).map vf) 0 w (fun j hj => by
    simp only [Nat.add_zero]
    exact hex j hj) (fun j hj => by
    simp only [Nat.add_zero]
    exact r3.cell (hcell j (by omega))) hone
  rw [Nat.add_zero] at hst
  have he := ext_setCells b ((List.range (ys.length * csz c)).map vf) (o + off * csz c) w
  have hz' : ∀ b', Z b' → ∀ (j : Nat), ¬ b' = b := fun b' hz _ e => by subst e; exact hr.zsep nm _ ni b' o hg rfl hn hbk hz
  refine ⟨hst, SR.upd1 (bl' := .row c (l.take off ++ (ys ++ l.drop (off + ys.length)))) hr hg rfl hn hbk he rfl ⟨q2, by simp; omega, .inr ⟨b, o, fun i j => if off ≤ i ∧ i < off + ys.length then vf ((i - off) * csz c + j) else vs i j, hbk, ⟨fun i hi j hj => ?_, fun i hi j hj => ?_⟩, r3.mono he r4, Nat.lt_of_lt_of_le r4 he.size⟩⟩⟩
  · have hi' : i < l.length := by simp at hi; omega
    by_cases hin : off ≤ i ∧ i < off + ys.length
    · have h3 : i * csz c = off * csz c + (i - off) * csz c := by rw [← Nat.add_mul]; congr 1; omega
      have h4 : (i - off) * csz c + j < ys.length * csz c := by
        have : (i - off + 1) * csz c ≤ ys.length * csz c := Nat.mul_le_mul_right _ (by omega)
        rw [Nat.add_mul] at this
        omega
      rw [if_pos hin, cells_in hex (by omega) (by rw [hnl]; omega)]
      have e3 : o + i * csz c + j - (o + off * csz c) = (i - off) * csz c + j := by omega
      rw [e3]
      simp [List.getD, h4]
    · rw [if_neg hin, cells_out]
      · exact r2.cell i hi' j hj
      · rw [hnl]
        rcases Nat.lt_or_ge i off with h1 | h1
        · left
          have : (i + 1) * csz c ≤ off * csz c := Nat.mul_le_mul_right _ (by omega)
          rw [Nat.add_mul] at this
          omega
        · right
          have : (off + ys.length) * csz c ≤ i * csz c := Nat.mul_le_mul_right _ (by omega)
          rw [Nat.add_mul] at this
          omega
  · have hi' : i < l.length := by simp at hi; omega
    have htl : (l.take off).length = off := by simp; omega
    by_cases hin : off ≤ i ∧ i < off + ys.length
    · rw [if_pos hin]
      have e3 : (l.take off ++ (ys ++ l.drop (off + ys.length))).getD i (dflt c) = ys.getD (i - off) (dflt c) := by
        simp only [List.getD]
        rw [List.getElem?_append_right (by omega), htl, List.getElem?_append_left (by omega)]
      rw [e3]
      exact (hv _ (by omega) j hj).mono he hz' (fun _ _ h => h) (fun _ h => h)
    · rw [if_neg hin]
      have e3 : (l.take off ++ (ys ++ l.drop (off + ys.length))).getD i (dflt c) = l.getD i (dflt c) := by
        simp only [List.getD]
        rcases Nat.lt_or_ge i off with h1 | h1
        · rw [List.getElem?_append_left (by omega), List.getElem?_take, if_pos h1]
        · rw [List.getElem?_append_right (by omega), htl, List.getElem?_append_right (by omega), List.getElem?_drop]
          congr 2; omega
      rw [e3]
      exact (r2.vr i hi' j hj).mono he hz' (fun _ _ h => h) (fun _ h => h)
end
end Go.Eng

set_option linter.unusedVariables false
set_option linter.unusedSimpArgs false
namespace Go.Eng
open Go.RowKit

section
variable {P : Program} {w w' : World} {G : Gh} {Z : Nat → Prop} {h : AH} {tc : Nat → Cd}

theorem tup0 : VR w G Z (.tup []) (.tuple #[]) := .tup [] #[] rfl (fun j hj => by simp at hj)

theorem opClear_ok (hr : HR w G Z h) {ts : Array TypeId} {ty t e : TypeId} (ht : ts[0]? = some t) (hu : P.underlying t = some (.slice e)) (hro : rowOk P tc e = true) {x v : AV} {h' : AH} {ux : Value} (hx : VR w G Z x ux)
    (ho : opClear P tc h e x = some (true, v, h')) : ∃ u w' , (Builtin.clear_ ts ty #[ux]).run P w = .ok u w' ∧ VR w' G Z v u ∧ SR (fun _ => False) w G Z h w' G Z h' := by
  have hempty : ∀ a, (Builtin.clear_ ts ty #[.slice a 0 0]).run P w = .ok (.tuple #[]) w := by
    intro a
    cases a <;> simp [Builtin.clear_, ht, run_und hu]
  unfold opClear at ho
  split at ho
  · cases ho; cases hx
    exact ⟨_, w, hempty none, tup0, .refl hr⟩
  · cases ho; cases hx
    exact ⟨_, w, hempty _, tup0, .refl hr⟩
  · rename_i nm c off len tl
    split at ho
    · rename_i c' l hg
      split at ho
      · rename_i l' z hc hz
        split at ho
        · rename_i x' hx'
          cases ho
          obtain ⟨e1, e2⟩ := castL_some hc
          subst e1
          have e3 : l' = l := e2
          subst e3
          obtain ⟨i, zv, hi, hzv, hrun, hs, hzs, hb1, hb2, hzc⟩ := rowOk_ok hro
          rw [hz] at hzc; cases hzc
          obtain ⟨zv', i', hi', hzv', _, _, hcl⟩ := zeroCs_ok hz
          rw [hi] at hi'; cases hi'
          rw [hzv] at hzv'; cases hzv'
          obtain ⟨d1, d2, d3⟩ := dec0_ok (us := fun j => zv.cells.getD j undef) hx' (hcl w G Z).vr hr.nil
          obtain ⟨ni, q1, q2, q3, q4⟩ := hr.blk nm _ hg
          cases hx with
          | own0 _ _ _ _ ni' a g1 g2 g3 g4 =>
            refine ⟨_, w, hempty _, tup0, (SR.refl hr).congr fun n => ?_⟩
            rw [hget_hset]
            split
            · rename_i en; subst en
              rw [hg]
              simp
            · rfl
          | own _ _ _ _ _ ni' b o cap e1 S g1 g2 g3 g4 g5 g6 g7 g8 =>
            rw [q1] at g1; cases g1
            have hln : (List.replicate len x').length = len := by simp
            obtain ⟨o1, o2⟩ := over_row (P := P) hr hg q1 g2 (ys := List.replicate len x') (off := off) (by rw [hln, ← q3]; exact g4) (vf := fun k => zv.cells.getD (k % csz (tc e)) undef) (fun i hi j hj => by
              rw [hln] at hi
              have e4 : (List.replicate len x').getD i (dflt (tc e)) = x' := by simp [List.getD, hi]
              rw [e4, (div_mod_flat hj).2]
              exact d3 j hj)
            rw [hln] at o1 o2
            rw [q2] at g3; subst g3
            by_cases h0 : len = 0
            · subst h0
              refine ⟨.tuple #[], w, ?_, tup0, (SR.refl hr).congr fun n => ?_⟩
              · simp [Builtin.clear_, ht, run_und hu]
              · rw [hget_hset]
                split
                · rename_i en; subst en
                  rw [hg]
                  simp
                · rfl
            · refine ⟨.tuple #[], _, ?_, tup0, o2⟩
              have hzl : (Builtin.zeroCells zv.cells len).toList = (List.range (len * csz (tc e))).map fun k => zv.cells.getD (k % csz (tc e)) undef := by
                have hzp := csz_pos (tc e)
                simp only [Builtin.zeroCells, Array.toList_map, Array.toList_range, hzs]
                refine List.map_congr_left fun k hk => ?_
                have : k % csz (tc e) < zv.cells.size := by rw [hzs]; exact Nat.mod_lt _ (by omega)
                rw [getElem!_pos zv.cells _ this]
                simp [Array.getD, this]
              have : (Builtin.clear_ ts ty #[.slice (some (ad b (o + off * csz (tc e)))) len cap]).run P w = ((storeCells (ad b (o + off * csz (tc e))) (Builtin.zeroCells zv.cells len).toList).run P w).andThen fun _ w => .ok (.tuple #[]) w := by
                cases len with
                | zero => exact absurd rfl h0
                | succ n => simp [Builtin.clear_, ht, run_und hu, hrun]
              rw [this, hzl, o1]
              rfl
        · cases ho
      · cases ho
    · cases ho
  · cases ho
end
end Go.Eng

set_option linter.unusedVariables false
set_option linter.unusedSimpArgs false
namespace Go.Eng
open Go.RowKit

section
variable {P : Program} {w w' : World} {G : Gh} {Z : Nat → Prop} {h : AH} {tc : Nat → Cd}

theorem run_copy {ts : Array TypeId} {ty t e : TypeId} (ht : ts[0]? = some t) (hu : P.underlying t = some (.slice e)) {i : TypeInfo} (hi : P.info? e = some i) {base : Option Addr} {dLen dCap m : Nat} {uy : Value} {cs : List Value}
    (hl : (Builtin.lenOf uy).run P w = .ok m w) (hc : (Builtin.firstCells i.size (Nat.min m dLen) uy).run P w = .ok cs.toArray w) :
    (Builtin.copy_ ts ty #[.slice base dLen dCap, uy]).run P w = match base with
      | some a => ((storeCells a cs).run P w).andThen fun _ w => .ok (goInt (Nat.min m dLen)) w
      | none => .ok (goInt (Nat.min m dLen)) w := by
  cases base <;> simp [Builtin.copy_, ht, run_und hu, sizeOf, typeInfo, hi, hl, hc]

theorem copyOwn_ok (hr : HR w G Z h) {ts : Array TypeId} {ty t e : TypeId} (ht : ts[0]? = some t) (hu : P.underlying t = some (.slice e)) (hro : rowOk P tc e = true) {nm off len : Nat} {c : Cd} {tl : Bool} {ux uy : Value} {l ys : List (tc e).T} {vf : Nat → Value}
    (hx : VR w G Z (.own nm c off len tl) ux) (hs : Src P w G Z (tc e) ys uy vf) (hg : hget h nm = some (.row (tc e) l)) :
    ∃ w', (Builtin.copy_ ts ty #[ux, uy]).run P w = .ok (.int .i64 (min ys.length len : Nat)) w' ∧ SR (fun _ => False) w G Z h w' G Z (hset h nm (.row (tc e) (l.take off ++ (ys.take len ++ l.drop (off + min ys.length len))))) := by
  obtain ⟨i, zv, hi, hzv, hrun, hsz, hzs, hb1, hb2, hzc⟩ := rowOk_ok hro
  obtain ⟨ni, q1, q2, q3, q4⟩ := hr.blk nm _ hg
  have hc := hs.cells (Nat.min ys.length len) w (Nat.min_le_left _ _) (fun _ => rfl)
  rw [← hsz] at hc
  have hcp := fun base cap => run_copy (ty := ty) (base := base) (dLen := len) (dCap := cap) ht hu hi (hs.len w) hc
  have hln : (ys.take len).length = min ys.length len := by rw [List.length_take, Nat.min_comm]
  cases hx with
  | own0 _ _ _ _ ni' a g1 g2 g3 g4 =>
    refine ⟨w, ?_, (SR.refl hr).congr fun n => ?_⟩
    · rw [hcp]
      cases a with
      | none => rfl
      | some a => simp [storeCells, goInt]
    · rw [hget_hset]
      split
      · rename_i en; subst en
        rw [hg]
        simp
      · rfl
  | own _ _ _ _ _ ni' b o cap e1 S g1 g2 g3 g4 g5 g6 g7 g8 =>
    rw [q1] at g1; cases g1
    obtain ⟨o1, o2⟩ := over_row (P := P) hr hg q1 g2 (ys := ys.take len) (off := off) (by rw [hln, ← q3]; omega) (vf := vf) (fun i hi j hj => by
      rw [hln] at hi
      have e4 : (ys.take len).getD i (dflt (tc e)) = ys.getD i (dflt (tc e)) := by
        simp only [List.getD, List.getElem?_take]
        rw [if_pos (by omega)]
      rw [e4]
      exact hs.vr i (by omega) j hj)
    rw [hln] at o1 o2
    rw [q2] at g3; subst g3
    refine ⟨_, ?_, o2⟩
    rw [hcp]
    have e5 : Nat.min ys.length len = min ys.length len := rfl
    simp only [hsz, e5, o1, Result.andThen_ok, goInt]
end
end Go.Eng

set_option linter.unusedVariables false
set_option linter.unusedSimpArgs false
namespace Go.Eng
open Go.RowKit

section
variable {P : Program} {w w' : World} {G : Gh} {Z : Nat → Prop} {h : AH} {tc : Nat → Cd}

theorem ovr_ok (src : List UInt8) : ∀ (n i : Nat) (cs r : List AV), ovr src i n cs = some r → r.length = cs.length ∧ n ≤ cs.length ∧
    (∀ k, n ≤ k → getT r k = getT cs k) ∧ (∀ k, k < n → src.length ≤ i + k → getT r k = getT cs k) ∧ (∀ k, k < n → i + k < src.length → getT r k = .int .u8 ((src.getD (i + k) 0).toNat : Int))
  | 0, i, cs, r, h => by
    have e : r = cs := by
      cases cs <;> (simp only [ovr] at h; cases h; rfl)
    subst e
    exact ⟨rfl, Nat.zero_le _, fun _ _ => rfl, fun k hk => by omega, fun k hk => by omega⟩
  | n + 1, i, [], r, h => by cases h
  | n + 1, i, c :: cs, r, h => by
    cases c with
    | int k x =>
      cases k <;> simp only [ovr] at h <;> try cases h
      split at h
      · rename_i r' hr'
        cases h
        obtain ⟨i1, i2, i3, i4, i5⟩ := ovr_ok src n (i + 1) cs r' hr'
        refine ⟨by simp [i1], by simp; omega, fun k hk => ?_, fun k hk hs => ?_, fun k hk hs => ?_⟩
        · cases k with
          | zero => omega
          | succ k => exact i3 k (by omega)
        · cases k with
          | zero =>
            have : decide (i < src.length) = false := by simp; omega
            simp only [getT, this, ifb]
          | succ k => exact i4 k (by omega) (by omega)
        · cases k with
          | zero =>
            have : decide (i < src.length) = true := by simp; omega
            simp only [getT, this, ifb, Nat.add_zero]
          | succ k =>
            have := i5 k (by omega) (by omega)
            simp only [getT]
            rw [this]
            congr 4; omega
      · cases h
    | _ => cases h

theorem vr_int_one {k : IntKind} {n : Int} {v : Value} (h : VR w G Z (.int k n) v) : v.oneCell' = true := by
  cases h; rfl

theorem copyExp_ok (hr : HR w G Z h) {ts : Array TypeId} {ty t e : TypeId} (ht : ts[0]? = some t) (hu : P.underlying t = some (.slice e)) (hro : rowOk P tc e = true) (hc1 : csz (tc e) = 1) {nm off len : Nat} {ux uy : Value} {ys : List UInt8} {vf : Nat → Value}
    (hx : VR w G Z (.xown nm .u8 off len) ux) (hs : Src P w G Z .u8 ys uy vf) {cs r : List AV} (hg : hget h nm = some (.exp cs)) (ho : ovr ys 0 len (cs.drop off) = some r) :
    ∃ w', (Builtin.copy_ ts ty #[ux, uy]).run P w = .ok (.int .i64 (min ys.length len : Nat)) w' ∧ SR (fun _ => False) w G Z h w' G Z (hset h nm (.exp (cs.take off ++ r))) := by
  obtain ⟨i, zv, hi, hzv, hrun, hsz, hzs, hb1, hb2, hzc⟩ := rowOk_ok hro
  obtain ⟨ni, q1, b, o, vs, q2, q3, q4, q5, q6⟩ := hr.blk nm _ hg
  have hsz1 : i.size = csz .u8 := by rw [hsz, hc1]; rfl
  have hc := hs.cells (Nat.min ys.length len) w (Nat.min_le_left _ _) (fun _ => rfl)
  rw [← hsz1] at hc
  have hcp := fun base cap => run_copy (ty := ty) (base := base) (dLen := len) (dCap := cap) ht hu hi (hs.len w) hc
  obtain ⟨i1, i2, i3, i4, i5⟩ := ovr_ok ys len 0 _ r ho
  simp only [List.length_drop] at i1 i2
  cases hx with
  | xown0 _ _ _ a =>
    refine ⟨w, ?_, (SR.refl hr).congr fun n => ?_⟩
    · rw [hcp]
      cases a with
      | none => rfl
      | some a => simp [storeCells, goInt]
    · have e : r = cs.drop off := by
        cases hd : cs.drop off <;> (rw [hd] at ho; simp only [ovr] at ho; cases ho; rfl)
      rw [hget_hset, e]
      split
      · rename_i en; subst en
        rw [hg]
        simp
      · rfl
  | xown _ _ _ _ ni' b' o' cap g1 g2 g3 =>
    rw [q1] at g1; cases g1
    rw [q2] at g2; cases g2
    by_cases hl0 : len = 0
    · subst hl0
      have e : r = cs.drop off := by
        cases hd : cs.drop off <;> (rw [hd] at ho; simp only [ovr] at ho; cases ho; rfl)
      refine ⟨w, ?_, (SR.refl hr).congr fun n => ?_⟩
      · rw [hcp]
        simp [storeCells, goInt]
      · rw [hget_hset, e]
        split
        · rename_i en; subst en
          rw [hg]
          simp
        · rfl
    have hm1 : csz .u8 = 1 := rfl
    generalize hn : Nat.min ys.length len = n at hcp
    have hn' : n = min ys.length len := hn.symm
    have hnl : ((List.range (n * csz .u8)).map vf).length = n := by simp [hm1]
    have hcell : ∀ k, k < n → w.cell? (ad b (o + off * csz .u8 + k)) = some (vs (off + k)) := fun k hk => by
      have := q4.cell (off + k) (by omega)
      rw [hm1, Nat.mul_one, Nat.add_assoc]; exact this
    have hex : ∀ j, j < ((List.range (n * csz .u8)).map vf).length → (w.cell? (ad b (o + off * csz .u8 + j))).isSome = true := fun j hj => by
      rw [hcell j (by omega)]; rfl
    have hvr : ∀ k, k < n → VR w G Z (.int .u8 ((ys.getD k 0).toNat : Int)) (vf k) := fun k hk => by
      have := hs.vr k (by omega) 0 (by decide)
      simpa [hm1, enc, encLeaf, getT, dflt] using this
    have hone : ∀ v ∈ (List.range (n * csz .u8)).map vf, v.oneCell' = true := by
      intro v hv'
      obtain ⟨k, hk, rfl⟩ := List.mem_map.1 hv'
      exact vr_int_one (hvr k (by simpa [hm1] using hk))
    have hst := run_storeCells_cells (P := P) b (o + off * csz .u8) ((List.range (n * csz .u8)).map vf) 0 w (fun j hj => by
      simp only [Nat.add_zero]; exact hex j hj) (fun j hj => by
      simp only [Nat.add_zero]; exact q5.cell (hcell j (by omega))) hone
    rw [Nat.add_zero] at hst
    have he := ext_setCells b ((List.range (n * csz .u8)).map vf) (o + off * csz .u8) w
    have hz' : ∀ b', Z b' → ∀ (j : Nat), ¬ b' = b := fun b' hz _ e => by subst e; exact hr.zsep nm _ ni b' o hg rfl q1 q2 hz
    have hlen : (cs.take off ++ r).length = cs.length := by simp; omega
    have htl : (cs.take off).length = off := by simp; omega
    refine ⟨_, ?_, SR.upd1 (bl' := .exp (cs.take off ++ r)) hr hg rfl q1 q2 he rfl ⟨b, o, fun j => if off ≤ j ∧ j < off + n then vf (j - off) else vs j, q2, by rw [hlen]; exact q3, ⟨fun j hj => ?_, fun j hj => ?_, fun j hj => ?_⟩, q5.mono he q6, Nat.lt_of_lt_of_le q6 he.size⟩⟩
    · rw [hcp]
      rw [← hn']
      simp only [hsz1, hst, Result.andThen_ok, goInt]
    · rw [hlen] at hj
      by_cases hin : off ≤ j ∧ j < off + n
      · rw [if_pos hin, cells_in hex (by rw [hm1]; omega) (by rw [hnl, hm1]; omega)]
        have e3 : o + j - (o + off * csz .u8) = j - off := by rw [hm1]; omega
        rw [e3]
        simp [List.getD, hm1, show j - off < n by omega]
      · rw [if_neg hin, cells_out (by rw [hnl, hm1]; omega)]
        exact q4.cell j hj
    · rw [hlen] at hj
      by_cases hin : off ≤ j ∧ j < off + n
      · rw [if_pos hin]
        exact vr_int_one (hvr (j - off) (by omega))
      · rw [if_neg hin]; exact q4.one j hj
    · rw [hlen] at hj
      rw [getT_append, htl, getT_take]
      by_cases h1 : j < off
      · rw [if_pos h1, if_pos h1, if_neg (by omega)]
        exact (q4.vr j hj).mono he hz' (fun _ _ h => h) (fun _ h => h)
      · rw [if_neg h1]
        by_cases hin : j < off + n
        · rw [if_pos (by omega), i5 (j - off) (by omega) (by omega), Nat.zero_add]
          exact (hvr _ (by omega)).mono he hz' (fun _ _ h => h) (fun _ h => h)
        · rw [if_neg (by omega)]
          have e5 : getT r (j - off) = getT cs j := by
            have e6 : getT r (j - off) = getT (cs.drop off) (j - off) := by
              by_cases h2 : len ≤ j - off
              · exact i3 _ h2
              · exact i4 _ (by omega) (by omega)
            rw [e6, getT_drop]
            congr 1; omega
          rw [e5]
          exact (q4.vr j hj).mono he hz' (fun _ _ h => h) (fun _ h => h)
end
end Go.Eng

set_option linter.unusedVariables false
set_option linter.unusedSimpArgs false
namespace Go.Eng
open Go.RowKit

section
variable {P : Program} {w w' : World} {G : Gh} {Z : Nat → Prop} {h : AH} {tc : Nat → Cd}

theorem opCopy_ok (hr : HR w G Z h) {ts : Array TypeId} {ty t e : TypeId} (ht : ts[0]? = some t) (hu : P.underlying t = some (.slice e)) (hro : rowOk P tc e = true) {x y v : AV} {h' : AH} {ux uy : Value} (hx : VR w G Z x ux) (hy : VR w G Z y uy)
    (ho : opCopy tc h e x y = some (true, v, h')) : ∃ u w' Z', (Builtin.copy_ ts ty #[ux, uy]).run P w = .ok u w' ∧ VR w' G Z' v u ∧ SR (fun _ => False) w G Z h w' G Z' h' := by
  unfold opCopy at ho
  split at ho
  · rename_i nm c off len tl
    split at ho
    · rename_i ys h1 hsrc
      obtain ⟨Z1, vf, s0, s1⟩ := srcL_ok (P := P) hsrc hy hr
      split at ho
      · rename_i c' l hg
        split at ho
        · rename_i l' hc
          cases ho
          obtain ⟨e1, e2⟩ := castL_some hc
          subst e1
          have e3 : l' = l := e2
          subst e3
          obtain ⟨w', r1, r2⟩ := copyOwn_ok (ty := ty) s0.hr ht hu hro (s0.vr hr hx) s1 hg
          exact ⟨_, w', Z1, r1, .int _ _ rfl, (s0.trans r2).weak fun n hn => hn.elim id id⟩
        · cases ho
      · cases ho
    · cases ho
  · rename_i nm off len
    split at ho
    · rename_i cs hg hc1
      split at ho
      · rename_i ys hys
        split at ho
        · rename_i r hov
          cases ho
          obtain ⟨vf, hs⟩ := (decSl_ok hys hy hr).src (P := P)
          obtain ⟨w', r1, r2⟩ := copyExp_ok (ty := ty) hr ht hu hro (by simpa using hc1) hx hs hg hov
          exact ⟨_, w', Z, r1, .int _ _ rfl, r2⟩
        · cases ho
      · cases ho
    · cases ho
  · cases ho

/-- What an operation that writes does: a value, or nothing. -/
def RWr (P : Program) (w : World) (G : Gh) (Z : Nat → Prop) (h : AH) (N : Nat → Prop) (s : Sem Next) (v : AV) (h' : AH) : Prop :=
  ∃ u w' G' Z', (s.run P w = .ok (.value u) w' ∨ (s.run P w = .ok .skip w' ∧ u = undef)) ∧ VR w' G' Z' v u ∧ SR N w G Z h w' G' Z' h'

theorem opW_ok {tm : List AV} {a : Act} (ht : TR w G Z tm a.tmps) (hr : HR w G Z h) {nb : Nat} (hG : G nb = none) {o : Oper} {v : AV} {h' : AH} (ho : opW P tc h tm nb o = some (true, v, h')) :
    RWr P w G Z h (· = nb) (execOp a.eval o) v h' := by
  obtain ⟨op, dst, oty, pos, after, guard⟩ := o
  unfold opW at ho
  simp only at ho
  unfold execOp
  split at ho <;> simp only
  · rename_i t p x
    split at ho
    · rename_i hb
      simp only [Bool.and_eq_true] at hb
      split at ho
      · rename_i h1 hs
        cases ho
        obtain ⟨w', Z', r1, r2⟩ := store_ok (P := P) hb.1 (by simpa using hb.2) hs (ev1_ok ht p) (ev1_ok ht x) hr
        exact ⟨undef, w', G, Z', .inr ⟨by simp [r1], rfl⟩, .top _, r2.weak fun n hn => hn.elim⟩
      · cases ho
    · cases ho
  · rename_i c
    split at ho
    · rename_i x y t t2 hcal hargs hts
      have e1 : c.args = #[x, y] := by apply Array.ext'; simpa using hargs
      have e2 : c.argTypes = #[t, t2] := by apply Array.ext'; simpa using hts
      split at ho
      · rename_i e hu h2
        split at ho
        · rename_i hro
          obtain ⟨u, w', G', Z', r1, r2, r3⟩ := opAppend_ok (ty := oty) hr hG hu h2 hro (ev1_ok ht x) (ev1_ok ht y) ho
          exact ⟨u, w', G', Z', .inl (by simp [resolve, hcal, e1, e2, invoke, builtin, r1]), r2, r3⟩
        · cases ho
      · cases ho
    · rename_i x y t ts hcal hargs hts
      have e1 : c.args = #[x, y] := by apply Array.ext'; simpa using hargs
      have e2 : c.argTypes[0]? = some t := by rw [← Array.getElem?_toList, hts]; rfl
      split at ho
      · rename_i e hu
        split at ho
        · rename_i hro
          obtain ⟨u, w', Z', r1, r2, r3⟩ := opCopy_ok (ty := oty) hr e2 hu hro (ev1_ok ht x) (ev1_ok ht y) ho
          exact ⟨u, w', G, Z', .inl (by simp [resolve, hcal, e1, invoke, builtin, r1]), r2, r3.weak fun n hn => hn.elim⟩
        · cases ho
      · cases ho
    · rename_i x t ts hcal hargs hts
      have e1 : c.args = #[x] := by apply Array.ext'; simpa using hargs
      have e2 : c.argTypes[0]? = some t := by rw [← Array.getElem?_toList, hts]; rfl
      split at ho
      · rename_i e hu
        split at ho
        · rename_i hro
          obtain ⟨u, w', r1, r2, r3⟩ := opClear_ok (ty := oty) hr e2 hu hro (ev1_ok ht x) ho
          exact ⟨u, w', G, Z, .inl (by simp [resolve, hcal, e1, invoke, builtin, r1]), r2, r3.weak fun n hn => hn.elim⟩
        · cases ho
      · cases ho
    · cases ho
  · cases ho
end
end Go.Eng
