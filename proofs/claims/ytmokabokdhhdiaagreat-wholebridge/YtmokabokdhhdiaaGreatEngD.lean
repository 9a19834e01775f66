/- A part of the evaluator of the program and of its proof: texts E14, E15, E16, E17, E18. -/
import Derived.Test.YtmokabokdhhdiaaGreatEngC
import Derived.Laws.AppendOwn
import Derived.Laws.IdiomStrings
set_option linter.unusedVariables false
set_option linter.unusedSimpArgs false
namespace Go.Eng
open Go.RowKit

/-! ### From one state of the memory to the next -/

/-- New names lie in N. -/
structure SR (N : Nat → Prop) (w : World) (G : Gh) (Z : Nat → Prop) (h : AH) (w' : World) (G' : Gh) (Z' : Nat → Prop) (h' : AH) : Prop where
  ext : Ext (WrH G h) w w'
  gm : ∀ nm ni, G nm = some ni → G' nm = some ni
  gn : ∀ nm ni, G' nm = some ni → G nm = some ni ∨ N nm
  zm : ∀ b, Z b → Z' b
  zn : ∀ b, Z' b → Z b ∨ w.heap.size ≤ b ∨ WrH G h b 0
  own : ∀ nm bl ni b o, hget h' nm = some bl → G' nm = some ni → ni.blk = some (b, o) → w.heap.size ≤ b ∨
    ∃ nm0 bl0 ni0 o0, hget h nm0 = some bl0 ∧ G nm0 = some ni0 ∧ ni0.blk = some (b, o0) ∧ (wr bl = true → wr bl0 = true)
  hn : ∀ nm bl, hget h' nm = some bl → (∃ bl0, hget h nm = some bl0) ∨ N nm
  hr : HR w' G' Z' h'

theorem WrH.zsep {w : World} {G : Gh} {Z : Nat → Prop} {h : AH} (hr : HR w G Z h) (b : Nat) (hz : Z b) (j : Nat) : ¬ WrH G h b j := by
  rintro ⟨nm, bl, ni, o, h1, h2, h3, h4⟩
  exact hr.zsep nm bl ni b o h1 h2 h3 h4 hz

theorem BR.lt {w : World} {G : Gh} {Z : Nat → Prop} {ni : NI} {bl : Blk} (h : BR w G Z ni bl) {b o : Nat} (hb : ni.blk = some (b, o)) : b < w.heap.size := by
  cases bl with
  | exp cs => obtain ⟨b', o', vs, h1, h2, h3, h4, h5⟩ := h; rw [hb] at h1; cases h1; exact h5
  | rexp cs => obtain ⟨b', o', vs, h1, h2, h3, h5⟩ := h; rw [hb] at h1; cases h1; exact h5
  | row c l =>
    obtain ⟨_, _, ⟨h1, _⟩ | ⟨b', o', vs, h1, h2, h3, h4⟩⟩ := h
    · rw [hb] at h1; cases h1
    · rw [hb] at h1; cases h1; exact h4
  | lrow c l =>
    obtain ⟨_, _, ⟨h1, _⟩ | ⟨b', o', vs, h1, h2, h4⟩⟩ := h
    · rw [hb] at h1; cases h1
    · rw [hb] at h1; cases h1; exact h4
  | frz c l =>
    obtain ⟨_, _, ⟨h1, _⟩ | ⟨b', o', vs, h1, h2, h4, _⟩⟩ := h
    · rw [hb] at h1; cases h1
    · rw [hb] at h1; cases h1; exact h4
theorem WrH.lt {w : World} {G : Gh} {Z : Nat → Prop} {h : AH} (hr : HR w G Z h) {b j : Nat} (hw : WrH G h b j) : b < w.heap.size := by
  obtain ⟨nm, bl, ni, o, h1, h2, h3, h4⟩ := hw
  obtain ⟨ni', g, hb⟩ := hr.blk nm bl h1
  rw [h3] at g; cases g
  exact hb.lt h4

section
variable {N N' : Nat → Prop} {w w' w'' : World} {G G' G'' : Gh} {Z Z' Z'' : Nat → Prop} {h h' h'' : AH}

theorem SR.vr (s : SR N w G Z h w' G' Z' h') (hr : HR w G Z h) {x : AV} {u : Value} (hv : VR w G Z x u) : VR w' G' Z' x u :=
  hv.mono s.ext (fun b hz j => WrH.zsep hr b hz j) s.gm s.zm

theorem SR.refl (hr : HR w G Z h) : SR N w G Z h w G Z h where
  ext := .refl _ _
  gm _ _ h := h
  gn _ _ h := .inl h
  zm _ h := h
  zn _ h := .inl h
  own nm bl ni b o h1 h2 h3 := .inr ⟨nm, bl, ni, o, h1, h2, h3, id⟩
  hn nm bl h := .inl ⟨bl, h⟩
  hr := hr

theorem SR.weak (s : SR N w G Z h w' G' Z' h') (hN : ∀ n, N n → N' n) : SR N' w G Z h w' G' Z' h' :=
  { s with gn := fun nm ni hh => (s.gn nm ni hh).imp id (hN nm), hn := fun nm bl hh => (s.hn nm bl hh).imp id (hN nm) }

theorem SR.wr_back (s : SR N w G Z h w' G' Z' h') {b j : Nat} (hb : b < w.heap.size) (hw : WrH G' h' b j) : WrH G h b j := by
  obtain ⟨nm, bl, ni, o, h1, h2, h3, h4⟩ := hw
  rcases s.own nm bl ni b o h1 h3 h4 with hh | ⟨nm0, bl0, ni0, o0, g1, g2, g3, g4⟩
  · omega
  · exact ⟨nm0, bl0, ni0, o0, g1, g4 h2, g2, g3⟩

theorem SR.trans (s : SR N w G Z h w' G' Z' h') (t : SR N' w' G' Z' h' w'' G'' Z'' h'') : SR (fun n => N n ∨ N' n) w G Z h w'' G'' Z'' h'' where
  ext := s.ext.trans t.ext fun b j hb hw => s.wr_back hb hw
  gm nm ni hh := t.gm _ _ (s.gm _ _ hh)
  gn nm ni hh := by
    rcases t.gn nm ni hh with h1 | h1
    · exact (s.gn nm ni h1).imp id .inl
    · exact .inr (.inr h1)
  zm b hh := t.zm b (s.zm b hh)
  zn b hh := by
    rcases t.zn b hh with h1 | h1 | h1
    · exact s.zn b h1
    · exact .inr (.inl (Nat.le_trans s.ext.size h1))
    · rcases Nat.lt_or_ge b w.heap.size with h2 | h2
      · exact .inr (.inr (s.wr_back h2 h1))
      · exact .inr (.inl h2)
  own nm bl ni b o h1 h2 h3 := by
    rcases t.own nm bl ni b o h1 h2 h3 with hh | ⟨nm0, bl0, ni0, o0, g1, g2, g3, g4⟩
    · exact .inl (Nat.le_trans s.ext.size hh)
    · rcases s.own nm0 bl0 ni0 b o0 g1 g2 g3 with hh | ⟨nm1, bl1, ni1, o1, k1, k2, k3, k4⟩
      · exact .inl hh
      · exact .inr ⟨nm1, bl1, ni1, o1, k1, k2, k3, fun e => k4 (g4 e)⟩
  hn nm bl hh := by
    rcases t.hn nm bl hh with ⟨bl0, h1⟩ | h1
    · exact (s.hn nm bl0 h1).imp id .inl
    · exact .inr (.inr h1)
  hr := t.hr

/-- One heap, seen in parts. -/
structure Parts (h A F : AH) : Prop where
  a : ∀ nm bl, hget A nm = some bl → hget h nm = some bl
  f : ∀ nm bl, hget F nm = some bl → hget h nm = some bl
  d : ∀ nm bl, hget F nm = some bl → hget A nm = none
  e : ∀ nm bl, hget h nm = some bl → hget A nm = some bl ∨ hget F nm = some bl

theorem HR.sub (hr : HR w G Z h) {A : AH} (hs : ∀ nm bl, hget A nm = some bl → hget h nm = some bl) : HR w G Z A where
  blk nm bl hh := hr.blk nm bl (hs _ _ hh)
  sep n m bn bm ni mi b o o' h1 h2 h3 h4 := hr.sep n m bn bm ni mi b o o' (hs _ _ h1) h2 (hs _ _ h3) h4
  zsep n bn ni b o h1 := hr.zsep n bn ni b o (hs _ _ h1)
  zlt := hr.zlt

/-- What is done with a part leaves the rest alone. -/
theorem SR.frame {A F A' k : AH} (hr : HR w G Z h) (hp : Parts h A F) (s : SR N w G Z A w' G' Z' A') (hN : ∀ n, N n → hget h n = none)
    (hk1 : ∀ nm bl, hget A' nm = some bl → hget k nm = some bl) (hk2 : ∀ nm bl, hget A' nm = none → hget F nm = some bl → hget k nm = some bl)
    (hk3 : ∀ nm bl, hget k nm = some bl → hget A' nm = some bl ∨ (hget A' nm = none ∧ hget F nm = some bl)) : SR N w G Z h w' G' Z' k := by
  have hwr : ∀ b j, WrH G A b j → WrH G h b j := by
    rintro b j ⟨nm, bl, ni, o, h1, h2⟩
    exact ⟨nm, bl, ni, o, hp.a _ _ h1, h2⟩
  have hF : ∀ nm bl ni b o, hget F nm = some bl → G nm = some ni → ni.blk = some (b, o) → ∀ j, ¬ WrH G A b j := by
    rintro nm bl ni b o h1 h2 h3 j ⟨nm', bl', ni', o', g1, g2, g3, g4⟩
    have hne : nm' ≠ nm := fun e => by subst e; rw [hp.d _ _ h1] at g1; cases g1
    exact hr.sep nm' nm bl' bl ni' ni b o' o (hp.a _ _ g1) g2 (hp.f _ _ h1) hne g3 h2 g4 h3
  have hG : ∀ nm bl ni, hget F nm = some bl → G' nm = some ni → G nm = some ni := by
    intro nm bl ni h1 h2
    rcases s.gn nm ni h2 with h3 | h3
    · exact h3
    · have := hN nm h3; rw [hp.f _ _ h1] at this; cases this
  refine ⟨s.ext.mono fun b j _ hh => hwr b j hh, s.gm, s.gn, s.zm, ?_, ?_, ?_, ?_⟩
  · intro b hb
    exact (s.zn b hb).imp id (fun x => x.imp id (hwr b 0))
  · intro nm bl ni b o h1 h2 h3
    rcases hk3 nm bl h1 with g | ⟨_, g⟩
    · exact (s.own nm bl ni b o g h2 h3).imp id (fun ⟨nm0, bl0, ni0, o0, k1, k2⟩ => ⟨nm0, bl0, ni0, o0, hp.a _ _ k1, k2⟩)
    · exact .inr ⟨nm, bl, ni, o, hp.f _ _ g, hG _ _ _ g h2, h3, id⟩
  · intro nm bl h1
    rcases hk3 nm bl h1 with g | ⟨_, g⟩
    · rcases s.hn nm bl g with ⟨bl0, g⟩ | g
      · exact .inl ⟨bl0, hp.a _ _ g⟩
      · exact .inr g
    · exact .inl ⟨bl, hp.f _ _ g⟩
  · have hnew : ∀ n m bn bm ni mi b o o', hget A' n = some bn → hget F m = some bm → (wr bn = true ∨ wr bm = true) → G' n = some ni → G' m = some mi → ni.blk = some (b, o) → mi.blk ≠ some (b, o') := by
      intro n m bn bm ni mi b o o' h1 h2 h3 h4 h5 h6 h7
      have h5' := hG _ _ _ h2 h5
      obtain ⟨mi', q1, q2⟩ := hr.blk m bm (hp.f _ _ h2)
      rw [h5'] at q1; cases q1
      have hlt := q2.lt h7
      rcases s.own n bn ni b o h1 h4 h6 with hh | ⟨nm0, bl0, ni0, o0, k1, k2, k3, k4⟩
      · omega
      · have hne : nm0 ≠ m := fun e => by subst e; rw [hp.d _ _ h2] at k1; cases k1
        rcases h3 with h3 | h3
        · exact hr.sep nm0 m bl0 bm ni0 mi b o0 o' (hp.a _ _ k1) (k4 h3) (hp.f _ _ h2) hne k2 h5' k3 h7
        · exact hr.sep m nm0 bm bl0 mi ni0 b o' o0 (hp.f _ _ h2) h3 (hp.a _ _ k1) (Ne.symm hne) h5' k2 h7 k3
    refine ⟨?_, ?_, ?_, s.hr.zlt⟩
    · intro nm bl h1
      rcases hk3 nm bl h1 with g | ⟨_, g⟩
      · exact s.hr.blk nm bl g
      · obtain ⟨ni, q1, q2⟩ := hr.blk nm bl (hp.f _ _ g)
        exact ⟨ni, s.gm _ _ q1, q2.mono s.ext (fun b hz j hw => WrH.zsep hr b hz j (hwr b j hw)) s.gm s.zm fun b o hb => hF nm bl ni b o g q1 hb⟩
    · intro n m bn bm ni mi b o o' h1 h2 h3 h4 h5 h6 h7
      rcases hk3 n bn h1 with g | ⟨_, g⟩ <;> rcases hk3 m bm h3 with g' | ⟨_, g'⟩
      · exact s.hr.sep n m bn bm ni mi b o o' g h2 g' h4 h5 h6 h7
      · exact hnew n m bn bm ni mi b o o' g g' (.inl h2) h5 h6 h7
      · intro h8
        exact hnew m n bm bn mi ni b o' o g' g (.inr h2) h6 h5 h8 h7
      · exact hr.sep n m bn bm ni mi b o o' (hp.f _ _ g) h2 (hp.f _ _ g') h4 (hG _ _ _ g h5) (hG _ _ _ g' h6) h7
    · intro n bn ni b o h1 h2 h3 h4 h5
      rcases hk3 n bn h1 with g | ⟨_, g⟩
      · exact s.hr.zsep n bn ni b o g h2 h3 h4 h5
      · have h3' := hG _ _ _ g h3
        rcases s.zn b h5 with q | q | q
        · exact hr.zsep n bn ni b o (hp.f _ _ g) h2 h3' h4 q
        · obtain ⟨ni', q1, q2⟩ := hr.blk n bn (hp.f _ _ g)
          rw [h3'] at q1; cases q1
          have := q2.lt h4
          omega
        · exact hF n bn ni b o g h3' h4 0 q
end
end Go.Eng

set_option linter.unusedVariables false
set_option linter.unusedSimpArgs false
namespace Go.Eng
open Go.RowKit

def upd (G : Gh) (n : Nat) (ni : NI) : Gh := fun m => if m = n then some ni else G m

section
variable {w w' : World} {G : Gh} {Z Z' : Nat → Prop} {h h' : AH}

theorem upd_same (G : Gh) (n : Nat) (ni : NI) : upd G n ni n = some ni := by simp [upd]
theorem upd_ne (G : Gh) {n m : Nat} (ni : NI) (hne : m ≠ n) : upd G n ni m = G m := by simp [upd, hne]
theorem upd_mono {n : Nat} {ni : NI} (hG : G n = none) : ∀ nm x, G nm = some x → upd G n ni nm = some x := by
  intro nm x hx
  have : nm ≠ n := fun e => by subst e; rw [hG] at hx; cases hx
  rw [upd_ne G ni this]; exact hx
theorem fresh_h (hr : HR w G Z h) {n : Nat} (hG : G n = none) : hget h n = none := by
  cases hh : hget h n with
  | none => rfl
  | some bl => obtain ⟨ni, q, _⟩ := hr.blk n bl hh; rw [hG] at q; cases q

theorem SR.congr {N : Nat → Prop} {G' : Gh} {k : AH} (s : SR N w G Z h w' G' Z' h') (hk : ∀ n, hget k n = hget h' n) : SR N w G Z h w' G' Z' k where
  ext := s.ext
  gm := s.gm
  gn := s.gn
  zm := s.zm
  zn := s.zn
  own nm bl ni b o h1 := s.own nm bl ni b o (by rw [← hk]; exact h1)
  hn nm bl h1 := s.hn nm bl (by rw [← hk]; exact h1)
  hr := s.hr.sub fun nm bl h1 => by rw [← hk]; exact h1

/-- A new block. -/
theorem SR.add (hr : HR w G Z h) (he : Ext (fun _ _ => False) w w') {nb : Nat} (hG : G nb = none) {ni : NI} {bl : Blk} (hbl : BR w' (upd G nb ni) Z ni bl)
    (hnew : ∀ b o, ni.blk = some (b, o) → w.heap.size ≤ b) : SR (· = nb) w G Z h w' (upd G nb ni) Z (hset h nb bl) where
  ext := he.mono fun _ _ _ hh => hh.elim
  gm := upd_mono hG
  gn nm x hx := by
    by_cases e : nm = nb
    · exact .inr e
    · rw [upd_ne G ni e] at hx; exact .inl hx
  zm _ hh := hh
  zn _ hh := .inl hh
  own nm b' ni' b o h1 h2 h3 := by
    rw [hget_hset] at h1
    by_cases e : nm = nb
    · subst e
      rw [upd_same] at h2; cases h2
      exact .inl (hnew b o h3)
    · rw [if_neg e] at h1
      rw [upd_ne G ni e] at h2
      exact .inr ⟨nm, b', ni', o, h1, h2, h3, id⟩
  hn nm b' h1 := by
    rw [hget_hset] at h1
    by_cases e : nm = nb
    · exact .inr e
    · rw [if_neg e] at h1; exact .inl ⟨b', h1⟩
  hr := by
    have hlt : ∀ nm bl ni' b o, hget h nm = some bl → G nm = some ni' → ni'.blk = some (b, o) → b < w.heap.size := by
      intro nm bl ni' b o h1 h2 h3
      obtain ⟨x, q1, q2⟩ := hr.blk nm bl h1
      rw [h2] at q1; cases q1
      exact q2.lt h3
    refine ⟨?_, ?_, ?_, fun b hb => Nat.lt_of_lt_of_le (hr.zlt b hb) he.size⟩
    · intro nm b' h1
      rw [hget_hset] at h1
      by_cases e : nm = nb
      · subst e
        rw [if_pos rfl] at h1; cases h1
        exact ⟨ni, upd_same _ _ _, hbl⟩
      · rw [if_neg e] at h1
        obtain ⟨x, q1, q2⟩ := hr.blk nm b' h1
        exact ⟨x, by rw [upd_ne G ni e]; exact q1, q2.mono he (fun _ _ _ hh => hh) (upd_mono hG) (fun _ hh => hh) fun _ _ _ _ hh => hh⟩
    · intro n m bn bm x y b o o' h1 h2 h3 h4 h5 h6 h7 h8
      rw [hget_hset] at h1 h3
      by_cases e : n = nb
      · subst e
        rw [if_neg (Ne.symm h4)] at h3
        rw [upd_same] at h5; cases h5
        rw [upd_ne G ni (Ne.symm h4)] at h6
        have := hnew b o h7
        have := hlt m bm y b o' h3 h6 h8
        omega
      · rw [if_neg e] at h1
        rw [upd_ne G ni e] at h5
        by_cases e' : m = nb
        · subst e'
          rw [upd_same] at h6; cases h6
          have := hnew b o' h8
          have := hlt n bn x b o h1 h5 h7
          omega
        · rw [if_neg e'] at h3
          rw [upd_ne G ni e'] at h6
          exact hr.sep n m bn bm x y b o o' h1 h2 h3 h4 h5 h6 h7 h8
    · intro n bn x b o h1 h2 h3 h4 h5
      rw [hget_hset] at h1
      by_cases e : n = nb
      · subst e
        rw [upd_same] at h3; cases h3
        have := hnew b o h4
        have := hr.zlt b h5
        omega
      · rw [if_neg e] at h1
        rw [upd_ne G ni e] at h3
        exact hr.zsep n bn x b o h1 h2 h3 h4 h5

/-- A name is forgotten. -/
theorem SR.del (hr : HR w G Z h) (nm : Nat) : SR (fun _ => False) w G Z h w G Z (hdel h nm) := by
  have hs : ∀ n bl, hget (hdel h nm) n = some bl → hget h n = some bl := by
    intro n bl hh
    rw [hget_hdel] at hh
    split at hh
    · cases hh
    · exact hh
  exact ⟨.refl _ _, fun _ _ h => h, fun _ _ h => .inl h, fun _ h => h, fun _ h => .inl h, fun n bl ni b o h1 h2 h3 => .inr ⟨n, bl, ni, o, hs _ _ h1, h2, h3, id⟩, fun n bl h1 => .inl ⟨bl, hs _ _ h1⟩, hr.sub hs⟩

/-- A block is written, and perhaps has a new name. -/
theorem SR.upd (hr : HR w G Z h) {nm nb : Nat} {bl bl' : Blk} {ni ni' : NI} {b o o' : Nat} (hb : hget h nm = some bl) (hw : wr bl = true) (hn : G nm = some ni) (hbk : ni.blk = some (b, o))
    (he : Ext (fun b' _ => b' = b) w w') (hnb : (nb = nm ∧ ni' = ni) ∨ G nb = none) (hw' : wr bl' = true) (hbk' : ni'.blk = some (b, o')) (hbl : BR w' (upd G nb ni') Z ni' bl') :
    SR (· = nb) w G Z h w' (Eng.upd G nb ni') Z (hset (hdel h nm) nb bl') := by
  have hgm : ∀ k x, G k = some x → Eng.upd G nb ni' k = some x := by
    rcases hnb with ⟨rfl, rfl⟩ | hG
    · intro k x hx
      by_cases e : k = nb
      · subst e; rw [upd_same]; rw [hn] at hx; exact hx
      · rw [upd_ne _ _ e]; exact hx
    · exact upd_mono hG
  have hz : ∀ b', Z b' → b' ≠ b := fun b' hz e => by subst e; exact hr.zsep nm bl ni b' o hb hw hn hbk hz
  have hh : ∀ k bk, k ≠ nb → hget (hset (hdel h nm) nb bl') k = some bk → hget h k = some bk ∧ k ≠ nm := by
    intro k bk e h1
    rw [hget_hset, if_neg e, hget_hdel] at h1
    split at h1
    · cases h1
    · rename_i e'; exact ⟨h1, e'⟩
  have hself : ∀ bk, hget (hset (hdel h nm) nb bl') nb = some bk → bk = bl' := by
    intro bk h1
    rw [hget_hset, if_pos rfl] at h1; cases h1; rfl
  have hblk : ∀ k bk x b' o', k ≠ nm → hget h k = some bk → G k = some x → x.blk = some (b', o') → b' ≠ b := by
    intro k bk x b' o' e h1 h2 h3 e'
    subst e'
    exact hr.sep nm k bl bk ni x b' o o' hb hw h1 (Ne.symm e) hn h2 hbk h3
  refine ⟨he.mono fun b' j _ e => ⟨nm, bl, ni, o, hb, hw, hn, by rw [e]; exact hbk⟩, hgm, ?_, fun _ h => h, fun _ h => .inl h, ?_, ?_, ?_⟩
  · intro k x hx
    by_cases e : k = nb
    · exact .inr e
    · rw [upd_ne _ _ e] at hx; exact .inl hx
  · intro k bk x b' o'' h1 h2 h3
    by_cases e : k = nb
    · subst e
      rw [upd_same] at h2; cases h2
      rw [hbk'] at h3; cases h3
      exact .inr ⟨nm, bl, ni, o, hb, hn, hbk, fun _ => hw⟩
    · rw [upd_ne _ _ e] at h2
      obtain ⟨g1, _⟩ := hh k bk e h1
      exact .inr ⟨k, bk, x, o'', g1, h2, h3, id⟩
  · intro k bk h1
    by_cases e : k = nb
    · exact .inr e
    · exact .inl ⟨bk, (hh k bk e h1).1⟩
  · refine ⟨?_, ?_, ?_, fun b hb => Nat.lt_of_lt_of_le (hr.zlt b hb) he.size⟩
    · intro k bk h1
      by_cases e : k = nb
      · subst e
        obtain rfl := hself bk h1
        exact ⟨ni', upd_same _ _ _, hbl⟩
      · obtain ⟨g1, g2⟩ := hh k bk e h1
        obtain ⟨x, q1, q2⟩ := hr.blk k bk g1
        exact ⟨x, hgm _ _ q1, q2.mono he (fun b' hb' j e' => hz b' hb' e') hgm (fun _ h => h) fun b' o' hx j e' => hblk k bk x b' o' g2 g1 q1 hx e'⟩
    · intro n m bn bm x y b' o1 o2 h1 h2 h3 h4 h5 h6 h7 h8
      by_cases e : n = nb
      · subst e
        rw [upd_same] at h5; cases h5
        rw [hbk'] at h7; cases h7
        rw [upd_ne _ _ (Ne.symm h4)] at h6
        obtain ⟨g1, g2⟩ := hh m bm (Ne.symm h4) h3
        exact hblk m bm y _ o2 g2 g1 h6 h8 rfl
      · rw [upd_ne _ _ e] at h5
        obtain ⟨g1, g2⟩ := hh n bn e h1
        by_cases e' : m = nb
        · subst e'
          rw [upd_same] at h6; cases h6
          rw [hbk'] at h8; cases h8
          exact hblk n bn x _ o1 g2 g1 h5 h7 rfl
        · rw [upd_ne _ _ e'] at h6
          obtain ⟨g3, g4⟩ := hh m bm e' h3
          exact hr.sep n m bn bm x y b' o1 o2 g1 h2 g3 h4 h5 h6 h7 h8
    · intro n bn x b' o1 h1 h2 h3 h4 h5
      by_cases e : n = nb
      · subst e
        rw [upd_same] at h3; cases h3
        rw [hbk'] at h4; cases h4
        exact hz _ h5 rfl
      · rw [upd_ne _ _ e] at h3
        obtain ⟨g1, _⟩ := hh n bn e h1
        exact hr.zsep n bn x b' o1 g1 h2 h3 h4 h5

/-- A row is frozen. -/
theorem SR.frz (hr : HR w G Z h) {nm : Nat} {c : Cd} {l : List c.T} (hb : hget h nm = some (.row c l)) :
    ∃ Z', SR (fun _ => False) w G Z h w G Z' (hset h nm (.frz c l)) := by
  obtain ⟨ni, hn, hbr⟩ := hr.blk nm _ hb
  have hh : ∀ k bk, k ≠ nm → hget (hset h nm (.frz c l)) k = some bk → hget h k = some bk := by
    intro k bk e h1
    rwa [hget_hset, if_neg e] at h1
  have hself : ∀ bk, hget (hset h nm (.frz c l)) nm = some bk → bk = .frz c l := by
    intro bk h1
    rw [hget_hset, if_pos rfl] at h1; cases h1; rfl
  have hzm : ∀ b, Z b → (Z b ∨ ∃ o, ni.blk = some (b, o)) := fun _ h => .inl h
  refine ⟨fun b => Z b ∨ ∃ o, ni.blk = some (b, o), ⟨.refl _ _, fun _ _ h => h, fun _ _ h => .inl h, hzm, ?_, ?_, ?_, ?_⟩⟩
  · rintro b (hz | ⟨o, ho⟩)
    · exact .inl hz
    · exact .inr (.inr ⟨nm, _, ni, o, hb, rfl, hn, ho⟩)
  · intro k bk x b o h1 h2 h3
    by_cases e : k = nm
    · subst e
      exact .inr ⟨k, _, x, o, hb, h2, h3, fun _ => rfl⟩
    · exact .inr ⟨k, bk, x, o, hh k bk e h1, h2, h3, id⟩
  · intro k bk h1
    by_cases e : k = nm
    · subst e; exact .inl ⟨_, hb⟩
    · exact .inl ⟨bk, hh k bk e h1⟩
  · refine ⟨?_, ?_, ?_, ?_⟩
    · intro k bk h1
      by_cases e : k = nm
      · subst e
        obtain rfl := hself bk h1
        refine ⟨ni, hn, ?_⟩
        obtain ⟨q1, q2, q3⟩ := hbr
        refine ⟨q1, q2, q3.imp id ?_⟩
        rintro ⟨b, o, vs, r1, r2, r3, r4⟩
        exact ⟨b, o, vs, r1, r2.mono (Wr := fun _ _ => False) (.refl _ _) (fun _ _ _ h => h) (fun _ _ h => h) hzm (fun _ h => h), r4, .inr ⟨o, r1⟩⟩
      · obtain ⟨x, q1, q2⟩ := hr.blk k bk (hh k bk e h1)
        exact ⟨x, q1, q2.mono (Wr := fun _ _ => False) (.refl _ _) (fun _ _ _ h => h) (fun _ _ h => h) hzm (fun _ _ _ _ h => h)⟩
    · intro n m bn bm x y b o o' h1 h2 h3 h4 h5 h6 h7 h8
      have en : n ≠ nm := fun e => by subst e; obtain rfl := hself bn h1; cases h2
      by_cases e : m = nm
      · subst e
        exact hr.sep n m bn _ x y b o o' (hh n bn en h1) h2 hb h4 h5 h6 h7 h8
      · exact hr.sep n m bn bm x y b o o' (hh n bn en h1) h2 (hh m bm e h3) h4 h5 h6 h7 h8
    · intro n bn x b o h1 h2 h3 h4 h5
      have en : n ≠ nm := fun e => by subst e; obtain rfl := hself bn h1; cases h2
      rcases h5 with h5 | ⟨o', h5⟩
      · exact hr.zsep n bn x b o (hh n bn en h1) h2 h3 h4 h5
      · exact hr.sep n nm bn _ x ni b o o' (hh n bn en h1) h2 hb en h3 hn h4 h5
    · rintro b (hz | ⟨o, ho⟩)
      · exact hr.zlt b hz
      · exact hbr.lt ho

theorem SR.frzN (hr : HR w G Z h) (nm : Nat) : ∃ Z', SR (fun _ => False) w G Z h w G Z' (frzN h nm) := by
  unfold Eng.frzN
  split
  · rename_i c l hh; exact SR.frz hr hh
  · exact ⟨Z, .refl hr⟩
theorem SR.frzV (hr : HR w G Z h) (v : AV) : ∃ Z', SR (fun _ => False) w G Z h w G Z' (frzV h v) := by
  cases v with
  | own nm => exact SR.frzN hr nm
  | _ => exact ⟨Z, .refl hr⟩
theorem SR.frzL : ∀ (l : List AV) {Z : Nat → Prop} {h : AH} (hr : HR w G Z h), ∃ Z', SR (fun _ => False) w G Z h w G Z' (frzL h l)
  | [], Z, h, hr => ⟨Z, .refl hr⟩
  | v :: r, Z, h, hr => by
    obtain ⟨Z1, s⟩ := SR.frzV hr v
    obtain ⟨Z2, t⟩ := SR.frzL r s.hr
    exact ⟨Z2, (s.trans t).weak fun n h => h.elim id id⟩
end
end Go.Eng

set_option linter.unusedVariables false
set_option linter.unusedSimpArgs false
namespace Go.Eng
open Go.RowKit

section
variable {w : World} {G : Gh} {Z : Nat → Prop} {h : AH}

theorem castL_some {c d : Cd} {l : List c.T} {l' : List d.T} (hc : castL c d l = some l') : ∃ e : c = d, l' = e ▸ l := by
  unfold castL at hc
  split at hc
  · rename_i e; cases hc; exact ⟨e, rfl⟩
  · cases hc

/-- What a slice holds. -/
def SC (w : World) (G : Gh) (Z : Nat → Prop) (bw : Bool) (c : Cd) (l : List c.T) (u : Value) : Prop :=
  ∃ A cap, u = .slice A l.length cap ∧ l.length ≤ cap ∧ (l = [] ∨ ∃ b o vs, A = some (ad b o) ∧ RR w G Z b o c l vs ∧ (bw = false → Z b))

theorem SC.imm {c : Cd} {l : List c.T} {u : Value} (hs : SC w G Z false c l u) : VR w G Z (.imm c l) u := by
  obtain ⟨A, cap, rfl, h1, h2⟩ := hs
  rcases h2 with rfl | ⟨b, o, vs, rfl, h3, h4⟩
  · exact .imm0 c A cap
  · exact .imm c l b o cap vs (h4 rfl) h1 h3.cell h3.vr
theorem imm_SC {c : Cd} {l : List c.T} {u : Value} {bw : Bool} (hv : VR w G Z (.imm c l) u) : SC w G Z bw c l u := by
  cases hv with
  | imm _ _ b o cap vs h1 h2 h3 h4 => exact ⟨_, cap, rfl, h2, .inr ⟨b, o, vs, rfl, ⟨h3, h4⟩, fun _ => h1⟩⟩
  | imm0 _ a cap => exact ⟨a, cap, rfl, Nat.zero_le _, .inl rfl⟩

theorem RR.sub {b o : Nat} {c : Cd} {l : List c.T} {vs : Nat → Nat → Value} (hr : RR w G Z b o c l vs) {off len : Nat} (hle : off + len ≤ l.length) :
    RR w G Z b (o + off * csz c) c ((l.drop off).take len) (fun i j => vs (off + i) j) := by
  have hln : ((l.drop off).take len).length = len := by simp; omega
  refine ⟨fun i hi j hj => ?_, fun i hi j hj => ?_⟩
  · have e : o + off * csz c + i * csz c + j = o + (off + i) * csz c + j := by rw [Nat.add_mul]; omega
    rw [e]
    exact hr.cell (off + i) (by omega) j hj
  · rw [getD_dt _ _ _ _ _ hi]
    exact hr.vr (off + i) (by omega) j hj

theorem own_SC {bw : Bool} {nm : Nat} {c d : Cd} {off len : Nat} {tl : Bool} {u : Value} {l : List d.T} (hr : HR w G Z h) (hl : rowL h bw nm d = some l) (hv : VR w G Z (.own nm c off len tl) u) :
    SC w G Z bw d ((l.drop off).take len) u := by
  have key : ∃ ni, G nm = some ni ∧ ni.c = d ∧ ni.len = l.length ∧ ((ni.blk = none ∧ l = []) ∨ ∃ b o vs, ni.blk = some (b, o) ∧ RR w G Z b o d l vs ∧ (bw = false → Z b)) := by
    unfold rowL at hl
    split at hl
    · rename_i c' l' hg
      split at hl
      · obtain ⟨e, rfl⟩ := castL_some hl
        subst e
        obtain ⟨ni, q1, q2, q3, q4⟩ := hr.blk nm _ hg
        exact ⟨ni, q1, q2, q3, q4.imp id fun ⟨b, o, vs, r1, r2, _⟩ => ⟨b, o, vs, r1, r2, fun e => by cases e⟩⟩
      · cases hl
    · rename_i c' l' hg
      split at hl
      · obtain ⟨e, rfl⟩ := castL_some hl
        subst e
        obtain ⟨ni, q1, q2, q3, q4⟩ := hr.blk nm _ hg
        exact ⟨ni, q1, q2, q3, q4.imp id fun ⟨b, o, vs, r1, r2, _⟩ => ⟨b, o, vs, r1, r2, fun e => by cases e⟩⟩
      · cases hl
    · rename_i c' l' hg
      obtain ⟨e, rfl⟩ := castL_some hl
      subst e
      obtain ⟨ni, q1, q2, q3, q4⟩ := hr.blk nm _ hg
      exact ⟨ni, q1, q2, q3, q4.imp id fun ⟨b, o, vs, r1, r2, _, r3⟩ => ⟨b, o, vs, r1, r2, fun _ => r3⟩⟩
    · cases hl
  obtain ⟨ni, q1, q2, q3, q4⟩ := key
  cases hv with
  | own _ _ _ _ _ ni' b o cap e S h1 h2 h3 h4 h5 h6 h7 h8 =>
    rw [q1] at h1; cases h1
    rw [q2] at h3; subst h3
    have hln : ((l.drop off).take len).length = len := by simp; omega
    refine ⟨_, cap, by rw [hln], by omega, ?_⟩
    rcases q4 with ⟨r1, _⟩ | ⟨b', o', vs, r1, r2, r3⟩
    · rw [r1] at h2; cases h2
    · rw [r1] at h2; cases h2
      exact .inr ⟨_, _, _, rfl, r2.sub (by omega), r3⟩
  | own0 _ _ _ _ ni' a h1 h3 h4 h5 =>
    exact ⟨a, 0, by simp, by simp, .inl (by simp)⟩

theorem decSl0_ok {bw : Bool} {d : Cd} {v : AV} {u : Value} {l : List d.T} (hd : decSl0 h bw d v = some l) (hv : VR w G Z v u) (hr : HR w G Z h) : SC w G Z bw d l u := by
  unfold decSl0 at hd
  split at hd
  · cases hd; cases hv; exact ⟨none, 0, rfl, by simp, .inl rfl⟩
  · cases hd; cases hv; rename_i a; exact ⟨a, 0, rfl, by simp, .inl rfl⟩
  · obtain ⟨e, rfl⟩ := castL_some hd
    subst e
    exact imm_SC hv
  · obtain ⟨e, rfl⟩ := castL_some hd
    subst e
    exact imm_SC (clip_imm hv)
  · split at hd
    · rename_i l' hl
      cases hd
      exact own_SC hr hl hv
    · cases hd
  · cases hd

theorem decInt_ok {k : IntKind} {v : AV} {n : Int} (hd : decInt k v = some n) : v = .int k n := by
  unfold decInt at hd
  split at hd <;> first | cases hd | (split at hd <;> first | (cases hd; rfl) | cases hd)

theorem decLeaf0_ok {c : Cd} {v : AV} {u : Value} {x : c.T} (hd : decLeaf0 h false c v = some x) (hv : VR w G Z v u) (hr : HR w G Z h) : VR w G Z (encLeaf c x) u := by
  cases c with
  | u8 =>
    simp only [decLeaf0] at hd
    split at hd
    · rename_i n hn
      cases hd
      obtain rfl := decInt_ok hn
      cases hv with | int _ _ h1 =>
      have h2 := inR_u8.1 h1
      have : (((UInt8.ofNat n.toNat).toNat : Nat) : Int) = n := by
        rw [UInt8.toNat_ofNat']
        omega
      simp only [encLeaf, this]
      exact .int _ _ h1
    · cases hd
  | u16 => simp only [decLeaf0] at hd; obtain rfl := decInt_ok hd; exact hv
  | u32 => simp only [decLeaf0] at hd; obtain rfl := decInt_ok hd; exact hv
  | u64 => simp only [decLeaf0] at hd; obtain rfl := decInt_ok hd; exact hv
  | i64 => simp only [decLeaf0] at hd; obtain rfl := decInt_ok hd; exact hv
  | i32 => simp only [decLeaf0] at hd; obtain rfl := decInt_ok hd; exact hv
  | bool =>
    simp only [decLeaf0] at hd
    split at hd
    · cases hd; exact hv
    · cases hd
  | str =>
    simp only [decLeaf0] at hd
    split at hd
    · cases hd; exact hv
    · cases hd
  | sl c => exact (decSl0_ok hd hv hr).imm
  | st s => cases hd

theorem decH0_ok : ∀ (cs : List Cd) (vs : List AV) (us : Nat → Value) (r : HL cs), decH0 h false cs vs = some r → (∀ j, j < vs.length → VR w G Z (getT vs j) (us j)) → HR w G Z h →
    vs.length = cs.length ∧ (encH cs r).length = cs.length ∧ ∀ j, j < cs.length → VR w G Z (getT (encH cs r) j) (us j)
  | [], [], us, r, hd, hv, hr => ⟨rfl, rfl, fun j hj => by simp at hj⟩
  | [], _ :: _, us, r, hd, hv, hr => by cases hd
  | _ :: _, [], us, r, hd, hv, hr => by cases hd
  | c :: cs, v :: vs, us, r, hd, hv, hr => by
    simp only [decH0] at hd
    split at hd
    · rename_i x hx
      split at hd
      · rename_i r' hr'
        cases hd
        obtain ⟨i1, i2, i3⟩ := decH0_ok cs vs (fun j => us (j + 1)) r' hr' (fun j hj => hv (j + 1) (by simpa using hj)) hr
        refine ⟨by simp [i1], by simp [encH, i2], fun j hj => ?_⟩
        cases j with
        | zero => exact decLeaf0_ok hx (hv 0 (by simp)) hr
        | succ j => exact i3 j (by simpa using hj)
      · cases hd
    · cases hd

theorem dec0_ok {c : Cd} {vs : List AV} {us : Nat → Value} {x : c.T} (hd : dec0 h false c vs = some x) (hv : ∀ j, j < vs.length → VR w G Z (getT vs j) (us j)) (hr : HR w G Z h) :
    vs.length = csz c ∧ (enc c x).length = csz c ∧ ∀ j, j < csz c → VR w G Z (getT (enc c x) j) (us j) := by
  cases c with
  | st s =>
    simp only [dec0] at hd
    split at hd
    · rename_i r hr'
      cases hd
      have := decH0_ok (lvs s) vs us r hr' hv hr
      simp only [enc, csz, toH_ofH]
      exact this
    · cases hd
  | _ =>
    simp only [dec0] at hd
    split at hd
    · refine ⟨rfl, rfl, fun j hj => ?_⟩
      simp only [csz] at hj
      obtain rfl : j = 0 := by omega
      exact decLeaf0_ok hd (hv 0 (by simp)) hr
    · cases hd

theorem encLeaf_len {c : Cd} (x : c.T) (hc : ∀ s, c ≠ .st s) : enc c x = [encLeaf c x] := by
  cases c <;> first | rfl | exact absurd rfl (hc _)
theorem encH_len : ∀ (cs : List Cd) (r : HL cs), (encH cs r).length = cs.length
  | [], _ => rfl
  | _ :: cs, (_, r) => by simp [encH, encH_len cs r]
theorem enc_len (c : Cd) (x : c.T) : (enc c x).length = csz c := by
  cases c with
  | st s => exact encH_len _ _
  | _ => rfl

/-- Elements one behind the other. -/
theorem decN0_ok {c : Cd} : ∀ (n : Nat) (vs : List AV) (us : Nat → Value) (l : List c.T), decN0 h false c n vs = some l → (∀ j, j < vs.length → VR w G Z (getT vs j) (us j)) → HR w G Z h →
    l.length = n ∧ n * csz c ≤ vs.length ∧ ∀ i, i < n → ∀ j, j < csz c → VR w G Z (getT (enc c (l.getD i (dflt c))) j) (us (i * csz c + j))
  | 0, vs, us, l, hd, hv, hr => by cases hd; exact ⟨rfl, by simp, fun i hi => by omega⟩
  | n + 1, vs, us, l, hd, hv, hr => by
    simp only [decN0] at hd
    split at hd
    · rename_i x hx
      split at hd
      · rename_i r hr'
        cases hd
        have h1 := dec0_ok (us := us) hx (fun j hj => by
          simp only [List.length_take] at hj
          rw [getT_take, if_pos (by omega)]
          exact hv j (by omega)) hr
        have hl : csz c ≤ vs.length := by
          have := h1.1
          simp only [List.length_take] at this
          omega
        obtain ⟨i1, i2, i3⟩ := decN0_ok n (vs.drop (csz c)) (fun j => us (csz c + j)) r hr' (fun j hj => by
          simp only [List.length_drop] at hj
          rw [getT_drop]
          exact hv _ (by omega)) hr
        simp only [List.length_drop] at i2
        refine ⟨by simp [i1], by rw [Nat.add_mul]; omega, fun i hi j hj => ?_⟩
        cases i with
        | zero =>
          simp only [List.getD_cons_zero, Nat.zero_mul, Nat.zero_add]
          exact h1.2.2 j hj
        | succ i =>
          simp only [List.getD_cons_succ]
          have e : (i + 1) * csz c + j = csz c + (i * csz c + j) := by rw [Nat.add_mul]; omega
          rw [e]
          exact i3 i (by omega) j hj
      · cases hd
    · cases hd

/-- A slice's content, rows of cells too. -/
theorem decSl_ok {bw : Bool} {d : Cd} {v : AV} {u : Value} {l : List d.T} (hd : decSl h bw d v = some l) (hv : VR w G Z v u) (hr : HR w G Z h) : SC w G Z true d l u := by
  have weak : ∀ {bw : Bool} {d : Cd} {l : List d.T}, SC w G Z bw d l u → SC w G Z true d l u := by
    rintro bw d l ⟨A, cap, h1, h2, h3⟩
    exact ⟨A, cap, h1, h2, h3.imp id fun ⟨b, o, vs, r1, r2, _⟩ => ⟨b, o, vs, r1, r2, fun e => by cases e⟩⟩
  have core : ∀ (nm off len : Nat) (cs : List AV) (l : List d.T), (∃ ni b o vs, G nm = some ni ∧ ni.blk = some (b, o) ∧ CR w G Z b o cs vs) → decN0 h false d len (cs.drop (off * csz d)) = some l →
      VR w G Z (.xown nm d off len) u → SC w G Z true d l u := by
    rintro nm off len cs l ⟨ni, b, o, vs, g1, g2, g3⟩ hn hx
    obtain ⟨i1, i2, i3⟩ := decN0_ok len _ (fun j => vs (off * csz d + j)) l hn (fun j hj => by
      simp only [List.length_drop] at hj
      rw [getT_drop]
      exact g3.vr _ (by omega)) hr
    simp only [List.length_drop] at i2
    cases hx with
    | xown _ _ _ _ ni' b' o' cap h1 h2 h3 =>
      rw [g1] at h1; cases h1
      rw [g2] at h2; cases h2
      refine ⟨_, cap, by rw [i1], by omega, .inr ⟨_, _, fun i j => vs (off * csz d + (i * csz d + j)), rfl, ⟨fun i hi j hj => ?_, fun i hi j hj => ?_⟩, fun e => by cases e⟩⟩
      · have e : b = b → o + off * csz d + i * csz d + j = o + (off * csz d + (i * csz d + j)) := by omega
        rw [e rfl]
        refine g3.cell _ ?_
        have : i * csz d + j < len * csz d := by
          have : (i + 1) * csz d ≤ len * csz d := Nat.mul_le_mul_right _ (by omega)
          rw [Nat.add_mul] at this
          omega
        omega
      · exact i3 i (by omega) j hj
    | xown0 _ _ _ a =>
      have : l = [] := List.eq_nil_of_length_eq_zero i1
      subst this
      exact ⟨a, 0, rfl, by simp, .inl rfl⟩
  unfold decSl at hd
  split at hd
  · rename_i nm c off len
    split at hd
    · rename_i e _
      subst e
      split at hd
      · rename_i cs hg
        obtain ⟨ni, q1, b, o, vs, q2, q3, q4, _⟩ := hr.blk nm _ hg
        exact core nm off len cs l ⟨ni, b, o, vs, q1, q2, q4⟩ hd hv
      · rename_i cs hg
        obtain ⟨ni, q1, b, o, vs, q2, q3, q4, _⟩ := hr.blk nm _ hg
        exact core nm off len cs l ⟨ni, b, o, vs, q1, q2, q4⟩ hd hv
      · cases hd
    · cases hd
  · exact weak (decSl0_ok hd hv hr)
end
end Go.Eng

set_option linter.unusedVariables false
set_option linter.unusedSimpArgs false
namespace Go.Eng
open Go.RowKit

section
variable {P : Program} {w w' : World} {G : Gh} {Z : Nat → Prop} {h : AH} {tc : Nat → Cd}

/-! ### Worlds with one block more -/

theorem heap_alloc_at (w : World) (o : Obj) (b : Nat) : (w.alloc o).heap[b]? = if b = w.heap.size then some o else w.heap[b]? := by
  unfold World.alloc
  simp only [Array.getElem?_push]
theorem ext_alloc (w : World) (o : Obj) : Ext (fun _ _ => False) w (w.alloc o) where
  os := rfl
  tape := rfl
  output := rfl
  size := by simp
  blk b hb _ := heap_alloc_old w o b hb
  shp b hb := by simp only [World.shape?, heap_alloc_old w o b hb]
  cell b j hb _ := by simp only [World.cell?, heap_alloc_old w o b hb]
  frz b hb hf := by
    intro cs e lo hi hh
    rw [heap_alloc_old w o b hb] at hh
    exact hf cs e lo hi hh
theorem ext_drew (w : World) : Ext (fun _ _ => False) w w.drew :=
  ⟨rfl, rfl, rfl, Nat.le_refl _, fun _ _ _ => rfl, fun _ _ => rfl, fun _ _ _ _ => rfl, fun _ _ hf => hf⟩
theorem cell_new (w : World) (cs : Array Value) (e : TypeId) (fr : Nat × Nat) (j : Nat) : (w.alloc (.cells cs e fr)).cell? (ad w.heap.size j) = cs[j]? := by
  have := heap_alloc_new w (.cells cs e fr)
  simp only [World.cell?, this]
  rfl
theorem shape_new (w : World) (cs : Array Value) (e : TypeId) (fr : Nat × Nat) : (w.alloc (.cells cs e fr)).shape? w.heap.size = some (e, cs.size) := by
  have := heap_alloc_new w (.cells cs e fr)
  simp only [World.shape?, this]
theorem nofrz_new (w : World) (cs : Array Value) (e : TypeId) (fr : Nat × Nat) (hf : fr = (0, 0) ∨ cs.size ≤ fr.1) : NoFrz (w.alloc (.cells cs e fr)) w.heap.size := by
  intro cs' e' lo hi hh
  rw [heap_alloc_at, if_pos rfl] at hh
  cases hh
  rcases hf with hf | hf
  · cases hf; exact .inl rfl
  · exact .inr hf

/-- A new block of cells. -/
theorem new_exp (hr : HR w G Z h) {nb : Nat} (hG : G nb = none) {cs : List AV} {vs : Array Value} (e : TypeId) (hc : CL w G Z cs vs) (d : Nat → Cd := fun _ => .u8) :
    SR (· = nb) w G Z h (w.alloc (.cells vs e)) (upd G nb ⟨some (w.heap.size, 0), cs.length, .u8⟩) Z (hset h nb (.exp cs)) := by
  refine SR.add hr (ext_alloc w _) hG ?_ (fun b o hb => by cases hb; exact Nat.le_refl _)
  refine ⟨w.heap.size, 0, fun j => vs.getD j undef, rfl, rfl, ⟨fun j hj => ?_, hc.one, fun j hj => ?_⟩, nofrz_new _ _ _ _ (.inl rfl), by simp⟩
  · rw [Nat.zero_add, cell_new]
    have : j < vs.size := by have := hc.len; omega
    simp [this, Array.getD]
  · exact (hc.vr j hj).mono (ext_alloc w _) (fun _ _ _ hh => hh) (upd_mono hG) (fun _ hh => hh)
theorem VR.ptr0 {nb : Nat} {n : Nat} {c : Cd} {b : Nat} : VR w (upd G nb ⟨some (b, 0), n, c⟩) Z (.ptr nb 0) (.pointer (some (ad b 0))) :=
  .ptr nb 0 _ b 0 (upd_same _ _ _) rfl

/-- A new row. -/
theorem new_row (hr : HR w G Z h) {nb : Nat} (hG : G nb = none) {c : Cd} {l : List c.T} {vs : Nat → Nat → Value} {cs : Array Value} (e : TypeId) (fr : Nat × Nat) (hf : fr = (0, 0) ∨ cs.size ≤ fr.1)
    (hc : ∀ i, i < l.length → ∀ j, j < csz c → cs[i * csz c + j]? = some (vs i j)) (hv : ∀ i, i < l.length → ∀ j, j < csz c → VR w G Z (getT (enc c (l.getD i (dflt c))) j) (vs i j)) :
    SR (· = nb) w G Z h (w.alloc (.cells cs e fr)) (upd G nb ⟨some (w.heap.size, 0), l.length, c⟩) Z (hset h nb (.row c l)) := by
  refine SR.add hr (ext_alloc w _) hG ?_ (fun b o hb => by cases hb; exact Nat.le_refl _)
  refine ⟨rfl, rfl, .inr ⟨w.heap.size, 0, vs, rfl, ⟨fun i hi j hj => ?_, fun i hi j hj => ?_⟩, nofrz_new _ _ _ _ hf, by simp⟩⟩
  · rw [Nat.zero_add, cell_new]; exact hc i hi j hj
  · exact (hv i hi j hj).mono (ext_alloc w _) (fun _ _ _ hh => hh) (upd_mono hG) (fun _ hh => hh)
theorem own_new {nb : Nat} {c : Cd} {n cap b : Nat} {e : TypeId} {S : Nat} (hn : n ≤ cap) (hs : w.shape? b = some (e, S)) (hc : cap * csz c ≤ S) :
    VR w (upd G nb ⟨some (b, 0), n, c⟩) Z (.own nb c 0 n true) (.slice (some (ad b 0)) n cap) := by
  have := VR.own (w := w) (G := upd G nb ⟨some (b, 0), n, c⟩) (Z := Z) nb c 0 n true _ b 0 cap e S (upd_same _ _ _) rfl rfl (by simp) (fun _ => by simp) hn hs (by simpa using hc)
  simpa using this

/-- What an operation that makes something does. -/
def RM (P : Program) (w : World) (G : Gh) (Z : Nat → Prop) (h : AH) (N : Nat → Prop) (s : Sem Next) (v : AV) (h' : AH) : Prop :=
  ∃ u w' G' Z', s.run P w = .ok (.value u) w' ∧ VR w' G' Z' v u ∧ SR N w G Z h w' G' Z' h'

theorem getD_range (n : Nat) (f : Nat → Value) (j : Nat) (hj : j < n) : ((List.range n).map f).toArray.getD j undef = f j := by
  simp [Array.getD, hj]

def isSt : Cd → Bool
  | .st _ => true
  | _ => false
theorem lvs_leaf (s : SN) : (lvs s).all (fun c => !isSt c) = true := by cases s <;> rfl
theorem encLeaf_one {c : Cd} (hc : isSt c = false) {x : c.T} {v : Value} (hv : VR w G Z (encLeaf c x) v) : v.oneCell' = true := by
  cases c with
  | st s => cases hc
  | _ => simp only [encLeaf] at hv; cases hv <;> rfl
theorem encH_one : ∀ (cs : List Cd) (r : HL cs) (j : Nat) (v : Value), cs.all (fun c => !isSt c) = true → j < cs.length → VR w G Z (getT (encH cs r) j) v → v.oneCell' = true
  | [], _, j, v, _, hj, _ => by simp at hj
  | c :: cs, (x, r), 0, v, h, _, hv => by
    simp only [List.all_cons, Bool.and_eq_true, Bool.not_eq_true'] at h
    exact encLeaf_one h.1 hv
  | c :: cs, (x, r), j + 1, v, h, hj, hv => by
    simp only [List.all_cons, Bool.and_eq_true] at h
    exact encH_one cs r j v h.2 (by simpa using hj) hv
theorem enc_one {c : Cd} {x : c.T} {j : Nat} {v : Value} (hj : j < csz c) (hv : VR w G Z (getT (enc c x) j) v) : v.oneCell' = true := by
  cases c with
  | st s => exact encH_one (lvs s) (toH s x) j v (lvs_leaf s) hj hv
  | _ =>
    simp only [csz] at hj
    obtain rfl : j = 0 := by omega
    exact encLeaf_one rfl hv

/-- Cells that are read. -/
theorem loadCs_ok {n : Nat} {p : AV} {u : Value} {cs : List AV} (hl : loadCs h n p = some cs) (hp : VR w G Z p u) (hr : HR w G Z h) :
    ∃ (b o : Nat) (vs : Nat → Value), u = .pointer (some (ad b o)) ∧ cs.length = n ∧ (∀ j, j < n → w.cell? (ad b (o + j)) = some (vs j)) ∧ (∀ j, j < n → VR w G Z (getT cs j) (vs j)) ∧ (∀ j, j < n → (vs j).oneCell' = true) := by
  have cut : ∀ {cs0 : List AV} {off : Nat} {b o : Nat} {vs : Nat → Value}, cutCs (some cs0) off n = some cs → (∀ j, j < cs0.length → w.cell? (ad b (o + j)) = some (vs j)) → (∀ j, j < cs0.length → VR w G Z (getT cs0 j) (vs j)) → (∀ j, j < cs0.length → (vs j).oneCell' = true) →
      cs.length = n ∧ (∀ j, j < n → w.cell? (ad b (o + off + j)) = some (vs (off + j))) ∧ (∀ j, j < n → VR w G Z (getT cs j) (vs (off + j))) ∧ (∀ j, j < n → (vs (off + j)).oneCell' = true) := by
    intro cs0 off b o vs hc h1 h2 h3
    simp only [cutCs] at hc
    split at hc
    · rename_i hle
      cases hc
      have hle' : off + n ≤ cs0.length := by simpa using hle
      refine ⟨by simp; omega, fun j hj => ?_, fun j hj => ?_, fun j hj => h3 _ (by omega)⟩
      · rw [Nat.add_assoc]; exact h1 (off + j) (by omega)
      · rw [getT_take, if_pos hj, getT_drop]; exact h2 (off + j) (by omega)
    · cases hc
  cases p <;> simp only [loadCs] at hl <;> try cases hl
  · rename_i nm off
    cases hp with | ptr _ _ ni b o h1 h2 =>
    unfold expCs at hl
    split at hl
    · rename_i cs0 hg
      obtain ⟨ni', q1, b', o', vs, q2, q3, q4, _⟩ := hr.blk nm _ hg
      rw [h1] at q1; cases q1
      rw [h2] at q2; cases q2
      obtain ⟨r1, r2, r3⟩ := cut hl q4.cell q4.vr q4.one
      exact ⟨b, o + off, _, rfl, r1, r2, r3⟩
    · rename_i cs0 hg
      obtain ⟨ni', q1, b', o', vs, q2, q3, q4, _⟩ := hr.blk nm _ hg
      rw [h1] at q1; cases q1
      rw [h2] at q2; cases q2
      obtain ⟨r1, r2, r3⟩ := cut hl q4.cell q4.vr q4.one
      exact ⟨b, o + off, _, rfl, r1, r2, r3⟩
    · simp [cutCs] at hl
  · rename_i nm i sub
    cases hp with | eptr _ _ _ ni b o h1 h2 h3 =>
    have core : ∀ (c : Cd) (l : List c.T), (∃ ni, G nm = some ni ∧ ni.c = c ∧ ni.len = l.length ∧ ((ni.blk = none ∧ l = []) ∨ ∃ b o vs, ni.blk = some (b, o) ∧ RR w G Z b o c l vs)) →
        cutCs (some (enc c (l.getD i (dflt c)))) sub n = some cs → ∃ (b' o' : Nat) (vs : Nat → Value), (Value.pointer (some (ad b (o + i * csz ni.c + sub)))) = .pointer (some (ad b' o')) ∧ cs.length = n ∧
          (∀ j, j < n → w.cell? (ad b' (o' + j)) = some (vs j)) ∧ (∀ j, j < n → VR w G Z (getT cs j) (vs j)) ∧ (∀ j, j < n → (vs j).oneCell' = true) := by
      rintro c l ⟨ni', q1, q2, q3, q4⟩ hcut
      rw [h1] at q1; cases q1
      rcases q4 with ⟨r1, _⟩ | ⟨b', o', vs, r1, r2⟩
      · rw [h2] at r1; cases r1
      · rw [h2] at r1; cases r1
        subst q2
        have hi : i < l.length := by omega
        obtain ⟨s1, s2, s3⟩ := cut (b := b) (o := o + i * csz ni.c) (vs := fun j => vs i j) hcut (fun j hj => by rw [enc_len] at hj; exact r2.cell i hi j hj) (fun j hj => by rw [enc_len] at hj; exact r2.vr i hi j hj) (fun j hj => by rw [enc_len] at hj; exact enc_one hj (r2.vr i hi j hj))
        exact ⟨b, _, _, rfl, s1, s2, s3⟩
    unfold rowCs at hl
    split at hl
    · rename_i c l hg
      obtain ⟨ni', q1, q2, q3, q4⟩ := hr.blk nm _ hg
      exact core c l ⟨ni', q1, q2, q3, q4.imp id fun ⟨b, o, vs, r1, r2, _⟩ => ⟨b, o, vs, r1, r2⟩⟩ hl
    · rename_i c l hg
      obtain ⟨ni', q1, q2, q3, q4⟩ := hr.blk nm _ hg
      exact core c l ⟨ni', q1, q2, q3, q4.imp id fun ⟨b, o, vs, r1, r2, _⟩ => ⟨b, o, vs, r1, r2⟩⟩ hl
    · rename_i c l hg
      obtain ⟨ni', q1, q2, q3, q4⟩ := hr.blk nm _ hg
      exact core c l ⟨ni', q1, q2, q3, q4.imp id fun ⟨b, o, vs, r1, r2, _⟩ => ⟨b, o, vs, r1, r2⟩⟩ hl
    · simp [cutCs] at hl
  · rename_i c x sub
    cases hp with | iptr _ _ _ b o vs h1 h2 h3 =>
    obtain ⟨s1, s2, s3⟩ := cut hl (fun j hj => by rw [enc_len] at hj; exact h2 j hj) (fun j hj => by rw [enc_len] at hj; exact h3 j hj) (fun j hj => by rw [enc_len] at hj; exact enc_one hj (h3 j hj))
    exact ⟨b, _, _, rfl, s1, s2, s3⟩

theorem load_ok {t : TypeId} {p v : AV} {u : Value} {cs : List AV} (hu : isSome (P.underlying t) = true) (hl : loadCs h (P.cellsOf t) p = some cs) (hk : pack P t cs = some v) (hp : VR w G Z p u) (hr : HR w G Z h) :
    RT P w G Z (Instr.loadAt t u) v := by
  obtain ⟨d, hd⟩ := isSome_ex hu
  obtain ⟨i, hi⟩ := info_of_und hd
  obtain ⟨b, o, vs, rfl, h1, h2, h3, h4⟩ := loadCs_ok hl hp hr
  unfold pack at hk
  cases ha : isAgg? P t with
  | true =>
    rw [ha] at hk
    cases hk
    refine ⟨.agg ((List.range (P.cellsOf t)).map vs).toArray, ?_, .agg _ _ (by simp [h1]) (fun j hj => ?_) (fun j hj => ?_)⟩
    · simp only [Instr.loadAt, Instr.sureAddr, Sem.run_bind, Sem.run_pure, Result.andThen_ok, loadVar, isAgg_run hd, ha, if_true, run_sz' hi]
      rw [run_loadCells w (ad b o) (P.cellsOf t) vs (fun j hj => by rw [add_ad]; exact h2 j hj)]
      rfl
    · rw [h1] at hj
      rw [getD_range _ _ _ hj]
      exact h3 j hj
    · rw [h1] at hj
      rw [getD_range _ _ _ hj]
      exact h4 j hj
  | false =>
    rw [ha] at hk
    simp only at hk
    split at hk
    · cases hk
      simp only [List.length_cons, List.length_nil] at h1
      refine ⟨vs 0, ?_, h3 0 (by omega)⟩
      have := h2 0 (by omega)
      rw [Nat.add_zero] at this
      simp only [Instr.loadAt, Instr.sureAddr, Sem.run_bind, Sem.run_pure, Result.andThen_ok, loadVar, isAgg_run hd, ha, Bool.false_eq_true, if_false, run_load, this]
    · cases hk
end
end Go.Eng

set_option linter.unusedVariables false
set_option linter.unusedSimpArgs false
namespace Go.Eng
open Go.RowKit

section
variable {P : Program} {w w' : World} {G : Gh} {Z : Nat → Prop} {h : AH} {tc : Nat → Cd}

theorem fillS_eq (n : Nat) : ∀ (vs : List (Nat × AV)) (cs : List AV), fillS n vs cs = fillP P vs (fun i => some (i * n, n)) cs
  | [], cs => rfl
  | (i, v) :: r, cs => by
    simp only [fillS, fillP]
    split
    · exact fillS_eq n r _
    · rfl

theorem fillP_len {pl : Nat → Option (Nat × Nat)} : ∀ (vs : List (Nat × AV)) (cs cs' : List AV), fillP P vs pl cs = some cs' → cs'.length = cs.length
  | [], cs, cs', h => by cases h; rfl
  | (i, v) :: r, cs, cs', h => by
    simp only [fillP] at h
    split at h
    · cases h
    · split at h
      · rename_i off n _ _ hc
        simp only [Bool.and_eq_true] at hc
        have h2 : (cells v).length = n := by simpa using hc.2.1
        have h3 := hc.2.2
        have h4 := fillP_len r _ _ h
        rw [h4]
        simp only [List.length_append, List.length_take, List.length_drop]
        have h5 := Nat.le_of_ble_eq_true h3
        omega
      · cases h

theorem repL_len : ∀ (n : Nat) (z : List AV), (repL n z).length = n * z.length
  | 0, z => by simp [repL]
  | n + 1, z => by simp [repL, repL_len n z, Nat.add_mul]; omega
theorem getT_repL : ∀ (n : Nat) (z : List AV) (j : Nat), j < n * z.length → getT (repL n z) j = getT z (j % z.length)
  | 0, z, j, hj => by simp at hj
  | n + 1, z, j, hj => by
    simp only [repL]
    rw [getT_append]
    by_cases h1 : j < z.length
    · rw [if_pos h1, Nat.mod_eq_of_lt h1]
    · rw [if_neg h1, getT_repL n z (j - z.length) (by rw [Nat.add_mul] at hj; omega)]
      congr 1
      exact (Nat.mod_eq_sub_mod (by omega)).symm

theorem rep_CL {z : List AV} {zs : Array Value} (hc : CL w G Z z zs) (hz : z.length ≠ 0) (n : Nat) : CL w G Z (repL n z) ((Array.range (n * z.length)).map (zs[· % zs.size]!)) := by
  have hs := hc.len
  have key : ∀ j, j < n * z.length → ((Array.range (n * z.length)).map (zs[· % zs.size]!)).getD j undef = zs.getD (j % z.length) undef := by
    intro j hj
    have h1 : j % z.length < zs.size := by rw [← hs]; exact Nat.mod_lt _ (by omega)
    rw [Array.getD_eq_getD_getElem?]
    simp only [Array.getElem?_map, Array.getElem?_range, hj, if_true, Option.map_some, Option.getD_some, ← hs]
    rw [getElem!_pos zs (j % z.length) h1]
    simp [Array.getD, h1]
  refine ⟨by simp [repL_len], fun j hj => ?_, fun j hj => ?_⟩
  · rw [repL_len] at hj
    rw [getT_repL n z j hj, key j hj]
    exact hc.vr _ (Nat.mod_lt _ (by omega))
  · rw [repL_len] at hj
    rw [key j hj]
    exact hc.one _ (Nat.mod_lt _ (by omega))

theorem HR.nil (hr : HR w G Z h) : HR w G Z [] := hr.sub fun nm bl hh => by cases hh

theorem ext_new (w : World) (cs : Array Value) (e : TypeId) : { w with heap := w.heap.push (.cells cs e) } = w.alloc (.cells cs e) := rfl

theorem mkSl_ok (hr : HR w G Z h) {nb : Nat} (hG : G nb = none) {c : Cd} {n : Nat} {cs : List AV} {vs : Array Value} (e : TypeId) (hc : CL w G Z cs vs) {v : AV} {bl : Blk} (hm : mkSl nb c n cs = (v, bl)) (hcn : n * csz c = cs.length) :
    ∃ G', VR (w.alloc (.cells vs e)) G' Z v (.slice (some (ad w.heap.size 0)) n n) ∧ SR (· = nb) w G Z h (w.alloc (.cells vs e)) G' Z (hset h nb bl) := by
  unfold mkSl at hm
  have hl := hc.len
  split at hm
  · rename_i l hd
    cases hm
    obtain ⟨i1, i2, i3⟩ := decN0_ok n cs (fun j => vs.getD j undef) l hd hc.vr hr.nil
    refine ⟨_, ?_, new_row hr hG (c := c) (l := l) (vs := fun i j => vs.getD (i * csz c + j) undef) e (0, 0) (.inl rfl) (fun i hi j hj => ?_) (fun i hi j hj => i3 i (by omega) j hj)⟩
    · rw [i1]
      exact own_new (Nat.le_refl _) (shape_new w vs e (0, 0)) (by omega)
    · have hlt : i * csz c + j < vs.size := by
        have : (i + 1) * csz c ≤ n * csz c := Nat.mul_le_mul_right _ (by omega)
        rw [Nat.add_mul] at this
        omega
      simp [hlt, Array.getD]
  · cases hm
    refine ⟨_, ?_, new_exp hr hG e hc⟩
    have := VR.xown (w := w.alloc (.cells vs e)) (G := upd G nb ⟨some (w.heap.size, 0), cs.length, .u8⟩) (Z := Z) nb c 0 n _ w.heap.size 0 n (upd_same _ _ _) rfl (Nat.le_refl _)
    simpa using this

theorem hsetAll_one (h : AH) (nb : Nat) (b : Blk) : hsetAll h nb [b] = hset h nb b := rfl

theorem run_buildSlice {t e : TypeId} (hu : P.underlying t = some (.slice e)) {i : TypeInfo} (hi : P.info? e = some i) {zv : Value} (hrun : ∀ w, (zeroValue e).run P w = .ok zv w) {n S : Nat}
    (hS : P.cellsOf e = S) (hn : n * S ≤ 16777216) {parts : Array (Nat × Value)} {a' : Array Value}
    (ha : Instr.fill (fun i => some (i * S, S)) ((Array.range (n * S)).map fun x => zv.cells[x % zv.cells.size]!) parts.toList = some a') :
    (Instr.buildSlice t n parts).run P w = .ok (.slice (some (ad w.heap.size 0)) n n) (w.alloc (.cells a' e)) := by
  have hn' : ¬ (n * S > 2 ^ 24) := by omega
  by_cases h0 : n * S = 0
  · rw [h0] at ha
    have e1 : (Array.range 0).map (fun x => zv.cells[x % zv.cells.size]!) = (Array.range 0).map (fun x => (#[] : Array Value)[x % (#[] : Array Value).size]!) := by simp
    rw [e1] at ha
    simp only [Instr.buildSlice, Sem.run_bind, run_und hu, Result.andThen_ok, run_sz' hi, hS, if_neg hn', h0, if_true, Sem.run_pure]
    simp only [if_neg (show ¬ (0 > 2 ^ 24) by omega), Sem.run_pure, Sem.run_bind, Result.andThen_ok]
    erw [ha]
    rfl
  · simp only [Instr.buildSlice, Sem.run_bind, run_und hu, Result.andThen_ok, run_sz' hi, hS, if_neg hn', h0, if_false, Sem.run_pure, hrun]
    erw [ha]
    rfl

theorem run_makeSlice {t e : TypeId} (hu : P.underlying t = some (.slice e)) {i : TypeInfo} (hi : P.info? e = some i) {zv : Value} (hrun : ∀ w, (zeroValue e).run P w = .ok zv w) {n : Int} 
    (h0 : 0 ≤ n) (h1 : n ≤ 4294967296) (hb : i.bytes ≤ 65536) :
    (Instr.makeSlice t (.int .i64 n) (.int .i64 n)).run P w = .ok (.slice (some (ad w.heap.size 0)) n.toNat n.toNat) (w.alloc (.cells ((Array.range (n.toNat * P.cellsOf e)).map fun x => zv.cells[x % zv.cells.size]!) e)) := by
  have hw : IntKind.i64.wrap n = n := by
    rw [IntKind.wrap_i64]; omega
  have hbn : ¬ ((i.bytes : Int) * n > 2 ^ 48) := by
    have : (i.bytes : Int) * n ≤ 65536 * 4294967296 := Int.mul_le_mul (by omega) h1 h0 (by omega)
    omega
  have hneg : ¬ (n < 0) := by omega
  have hcs := cellsOf_eq hi
  by_cases hz : n.toNat * i.size = 0
  · have hz2 := hz
    simp only [Nat.mul_eq_zero] at hz2
    have hbn2 : ¬ (281474976710656 < (i.bytes : Int) * n) := by omega
    simp [Instr.makeSlice, run_und hu, asInt, asIntOf, typeInfo, hi, hw, hbn2, hneg, sizeOf, hz, hz2, newRow, hcs, ext_new]
    congr 2
    simp
  · have hz2 := hz
    simp only [Nat.mul_eq_zero] at hz2
    have hbn2 : ¬ (281474976710656 < (i.bytes : Int) * n) := by omega
    simp [Instr.makeSlice, run_und hu, asInt, asIntOf, typeInfo, hi, hw, hbn2, hneg, sizeOf, hz, hz2, hrun, newRow, hcs, ext_new]

theorem HR.drew (hr : HR w G Z h) : HR w.drew G Z h where
  blk nm bl hh := by
    obtain ⟨ni, q1, q2⟩ := hr.blk nm bl hh
    exact ⟨ni, q1, q2.mono (ext_drew w) (fun _ _ _ h => h) (fun _ _ h => h) (fun _ h => h) (fun _ _ _ _ h => h)⟩
  sep := hr.sep
  zsep := hr.zsep
  zlt := hr.zlt
theorem SR.drew {N : Nat → Prop} {G' : Gh} {Z' : Nat → Prop} {h' : AH} (s : SR N w.drew G Z h w' G' Z' h') : SR N w G Z h w' G' Z' h' where
  ext := (ext_drew w).mono (fun _ _ _ h => h.elim) |>.trans s.ext fun _ _ _ h => h
  gm := s.gm
  gn := s.gn
  zm := s.zm
  zn := s.zn
  own := s.own
  hn := s.hn
  hr := s.hr

theorem SR.drop {N : Nat → Prop} {G' : Gh} {Z' : Nat → Prop} {h' : AH} (s : SR N w G Z h w' G' Z' h') (hN : ∀ n, N n → (∃ ni, G n = some ni) ∧ ∃ bl, hget h n = some bl) : SR (fun _ => False) w G Z h w' G' Z' h' :=
  { s with
    gn := fun nm ni hh => by
      rcases s.gn nm ni hh with h1 | h1
      · exact .inl h1
      · obtain ⟨⟨x, hx⟩, _⟩ := hN nm h1
        have := s.gm _ _ hx
        rw [hh] at this; cases this
        exact .inl hx
    hn := fun nm bl hh => by
      rcases s.hn nm bl hh with h1 | h1
      · exact .inl h1
      · exact .inl (hN nm h1).2 }

theorem heap_freeze (w : World) (b S k : Nat) : (w.freeze ⟨b, S, none⟩ 1).heap[k]? = if b = k then (w.heap[k]?).map (fun
      | .cells c elem (lo, hi) => .cells c elem (if lo == hi then (S, S + 1) else (min lo S, max hi (S + 1)))
      | o => o) else w.heap[k]? := by
  unfold World.freeze
  rw [if_neg (by decide)]
  simp only [Array.getElem?_modify]
  rfl
theorem cell_freeze (w : World) (b S : Nat) (a : Addr) : (w.freeze ⟨b, S, none⟩ 1).cell? a = w.cell? a := by
  unfold World.cell?
  rw [heap_freeze]
  by_cases e : b = a.block
  · rw [if_pos e]
    cases hh : w.heap[a.block]? with
    | none => rfl
    | some o => cases o <;> rfl
  · rw [if_neg e]
theorem shape_freeze (w : World) (b S k : Nat) : (w.freeze ⟨b, S, none⟩ 1).shape? k = w.shape? k := by
  unfold World.shape?
  rw [heap_freeze]
  by_cases e : b = k
  · rw [if_pos e]
    cases hh : w.heap[k]? with
    | none => rfl
    | some o => cases o <;> rfl
  · rw [if_neg e]
theorem ext_freeze (w : World) (b S : Nat) (e : TypeId) (hs : w.shape? b = some (e, S)) : Ext (fun b' _ => b' = b) w (w.freeze ⟨b, S, none⟩ 1) where
  os := by unfold World.freeze; rw [if_neg (by decide)]
  tape := by unfold World.freeze; rw [if_neg (by decide)]
  output := by unfold World.freeze; rw [if_neg (by decide)]
  size := by unfold World.freeze; rw [if_neg (by decide)]; simp
  blk k hk hn := by
    rw [heap_freeze, if_neg (fun e => hn 0 e.symm)]
  shp k _ := shape_freeze w b S k
  cell k j _ _ := cell_freeze w b S _
  frz k hk hf := by
    intro cs e' lo hi hh
    rw [heap_freeze] at hh
    split at hh
    · rename_i ek
      subst ek
      cases hw : w.heap[b]? with
      | none => rw [hw] at hh; cases hh
      | some ob =>
        rw [hw] at hh
        cases ob <;> simp only [Option.map_some, Option.some.injEq] at hh <;> try cases hh
        rename_i c el fr
        obtain ⟨lo0, hi0⟩ := fr
        have hS : c.size = S := by
          simp only [World.shape?, hw] at hs
          cases hs; rfl
        have := hf c el lo0 hi0 hw
        simp only [Obj.cells.injEq] at hh
        obtain ⟨rfl, rfl, hh⟩ := hh
        split at hh
        · cases hh; right; omega
        · rename_i hne
          have hne' : lo0 ≠ hi0 := by simpa using hne
          simp only [Prod.mk.injEq] at hh
          obtain ⟨rfl, rfl⟩ := hh
          right
          omega
    · exact hf cs e' lo hi hh

theorem opN_ok {tm : List AV} {a : Act} (ht : TR w G Z tm a.tmps) (hr : HR w G Z h) {nb : Nat} (hG : G nb = none) {o : Oper} {v : AV} {bs : List Blk} (ho : opN P tc h tm nb o = some (true, v, bs)) :
    RM P w G Z h (· = nb) (execOp a.eval o) v (hsetAll h nb bs) := by
  obtain ⟨op, dst, oty, pos, after, guard⟩ := o
  unfold opN at ho
  simp only at ho
  unfold execOp
  split at ho <;> simp only
  · rename_i t x
    split at ho
    · rename_i hb
      cases ho
      have hc := cells_ok hb (ev1_ok ht x)
      refine ⟨_, _, _, _, ?_, VR.ptr0, new_exp hr hG t ⟨hc.1, hc.2.1, hc.2.2⟩⟩
      simp [Instr.box, newVar, newRow, ext_new]
    · cases ho
  · rename_i t
    split at ho
    · rename_i z hz
      split at ho
      · cases ho
      · cases ho
        obtain ⟨zv, i, hi, hzv, hrun, rfl, hcl⟩ := zeroCs_ok hz
        refine ⟨_, _, _, _, ?_, VR.ptr0, new_exp hr hG t (hcl w G Z)⟩
        simp [Instr.alloc, hrun, newVar, newRow, ext_new]
    · cases ho
  · rename_i t p
    split at ho
    · rename_i cs hu hl
      split at ho
      · rename_i v' hk
        cases ho
        obtain ⟨u, h1, h2⟩ := load_ok hu hl hk (ev1_ok ht p) hr
        exact ⟨u, w, G, Z, by simp [h1], h2, .refl hr⟩
      · cases ho
    · cases ho
  · rename_i t n ps
    split at ho
    · rename_i e hu
      split at ho
      · rename_i z hz
        obtain ⟨zv, i, hi, hzv, hrun, rfl, hcl⟩ := zeroCs_ok hz
        split at ho
        · rename_i hck
          simp only [Bool.and_eq_true] at hck
          obtain ⟨hc1, hc2, hc3⟩ := hck
          have hc1' : (zv.cells.toList.map ofVal).length = csz (tc e) := by simpa using hc1
          have hc2' : P.cellsOf e = csz (tc e) := by simpa using hc2
          have hc3' : n * csz (tc e) ≤ 16777216 := by simpa using hc3
          have hzp := csz_pos (tc e)
          split at ho
          · rename_i cs hf
            generalize hm : mkSl nb (tc e) n cs = vb at ho
            obtain ⟨v', b⟩ := vb
            cases ho
            rw [fillS_eq (P := P)] at hf
            have hcr := rep_CL (hcl w G Z) (by omega) n
            rw [hc1'] at hcr
            obtain ⟨a', ha', hcl'⟩ := fill_ok (w := w) (G := G) (Z := Z) _ (ps.toList.map fun p => (p.1, a.eval p.2)) _ _ _ hf hcr (by simp) (fun i hi => parts_rel ht ps.toList i hi)
            have hlen : cs.length = n * csz (tc e) := by
              rw [fillP_len _ _ _ hf, repL_len, hc1']
            obtain ⟨G', hv, hs⟩ := mkSl_ok hr hG e hcl' hm hlen.symm
            refine ⟨_, _, G', Z, ?_, hv, hs⟩
            have hb := run_buildSlice (w := w) hu hi hrun hc2' hc3' (parts := ps.map fun (x : Nat × Operand) => (x.fst, a.eval x.snd)) (a' := a') (by simpa using ha')
            simp only [Sem.run_bind, hb, Result.andThen_ok, Sem.run_pure]
          · cases ho
        · cases ho
      · cases ho
    · cases ho
  · rename_i t n m
    split at ho
    · rename_i e hu
      split at ho
      · rename_i i z a1 b1 hi hz hn hm
        split at ho
        · rename_i x hx
          simp only [Option.some.injEq, Prod.mk.injEq, Bool.and_eq_true, decide_eq_true_eq] at ho
          obtain ⟨⟨⟨hb1, hb2⟩, rfl, h0, h1⟩, rfl, rfl⟩ := ho
          obtain ⟨zv, i', hi', hzv, hrun, rfl, hcl⟩ := zeroCs_ok hz
          rw [hi] at hi'; cases hi'
          have hb2' : P.cellsOf e = csz (tc e) := by simpa using hb2
          have hb1' : i.bytes ≤ 65536 := Nat.le_of_ble_eq_true hb1
          have vn := ev1_ok ht n
          have vm := ev1_ok ht m
          rw [hn] at vn
          rw [hm] at vm
          obtain ⟨un, hun⟩ : ∃ u, u = a.eval n := ⟨_, rfl⟩
          obtain ⟨um, hum⟩ : ∃ u, u = a.eval m := ⟨_, rfl⟩
          rw [← hun] at vn ⊢
          rw [← hum] at vm ⊢
          cases vn; cases vm
          obtain ⟨d1, d2, d3⟩ := dec0_ok (us := fun j => zv.cells.getD j undef) hx (hcl w G Z).vr hr.nil
          have hzs : zv.cells.size = csz (tc e) := by rw [← d1, (hcl w G Z).len]
          have hrn := run_makeSlice (P := P) (w := w) hu hi hrun h0 h1 hb1'
          have hzp := csz_pos (tc e)
          have hln : (List.replicate a1.toNat x).length = a1.toNat := by simp
          have hs := new_row (w := w) hr hG (c := tc e) (l := List.replicate a1.toNat x) (vs := fun i j => zv.cells.getD j undef) (cs := (Array.range (a1.toNat * csz (tc e))).map fun x => zv.cells[x % zv.cells.size]!) e (0, 0) (.inl rfl) (fun i hi j hj => by
              rw [hln] at hi
              have hlt : i * csz (tc e) + j < a1.toNat * csz (tc e) := by
                have : (i + 1) * csz (tc e) ≤ a1.toNat * csz (tc e) := Nat.mul_le_mul_right _ (by omega)
                rw [Nat.add_mul] at this
                omega
              have hmod : (i * csz (tc e) + j) % zv.cells.size = j := by
                rw [hzs, Nat.add_comm, Nat.add_mul_mod_self_right]
                exact Nat.mod_eq_of_lt hj
              have hjz : j < zv.cells.size := by omega
              simp only [Array.getElem?_map, Array.getElem?_range, hlt, if_true, Option.map_some, hmod]
              rw [getElem!_pos zv.cells j hjz]
              simp [Array.getD, hjz]) (fun i hi j hj => by
              rw [hln] at hi
              have : (List.replicate a1.toNat x).getD i (dflt (tc e)) = x := by simp [List.getD, hi]
              rw [this]
              exact d3 j hj)
          rw [hln] at hs
          refine ⟨_, _, _, _, ?_, own_new (w := w.alloc _) (cap := a1.toNat) (Nat.le_refl _) (shape_new w _ e (0, 0)) (by simp), hs⟩
          simp only [Sem.run_bind, hrn, Result.andThen_ok, Sem.run_pure, hb2']
        · cases ho
      · cases ho
    · cases ho
  · rename_i s d x
    have hx := ev1_ok ht x
    obtain ⟨u, hu⟩ : ∃ u, u = a.eval x := ⟨_, rfl⟩
    rw [← hu] at hx ⊢
    split at ho
    · rename_i e hs hd
      split at ho
      · rename_i he
        split at ho
        · rename_i l hl
          cases ho
          have hsc := decSl_ok hl hx hr
          obtain ⟨A, cap, rfl, h1, h2⟩ := hsc
          refine ⟨.string ⟨l.toArray⟩, w, G, Z, ?_, .str l, .refl hr⟩
          have hc : (convert s d (.slice A l.length cap)).run P w = .ok (.string ⟨l.toArray⟩) w := by
            rcases h2 with rfl | ⟨b, o, vs, rfl, h3, _⟩
            · cases A with
              | none =>
                rw [run_convert_bytes_string w s d e none _ cap hs he hd]
                rfl
              | some A => exact run_convert_bytes_back w s d e A cap [] hs he hd (fun j hj => by simp at hj)
            · refine run_convert_bytes_back w s d e (ad b o) cap l hs he hd (fun j hj => ?_)
              have c1 := h3.cell j hj 0 (by decide)
              have c2 := h3.vr j hj 0 (by decide)
              rw [add_ad]
              have e1 : o + j * csz .u8 + 0 = o + j := by simp [csz]
              rw [e1] at c1
              rw [c1]
              have e2 : l.getD j (dflt .u8) = l[j] := by simp [List.getD, hj]
              rw [e2] at c2
              obtain ⟨v0, hv0⟩ : ∃ v0, v0 = vs j 0 := ⟨_, rfl⟩
              rw [← hv0] at c2 ⊢
              simp only [enc, encLeaf, getT] at c2
              cases c2
              rfl
          simp only [Sem.run_bind, hc, Result.andThen_ok, Sem.run_pure]
        · cases ho
      · cases ho
    · rename_i e hs hd
      split at ho
      · rename_i l he hl
        cases ho
        rw [hl] at hx
        cases hx
        have hrn := run_bytes_of_string (P := P) w s d e ⟨l.toArray⟩ hs hd he
        have hge := grownCap_ge w l.length 0 e
        have hsz : (⟨l.toArray⟩ : ByteArray).size = l.length := by simp [ByteArray.size]
        rw [hsz] at hrn
        generalize grownCap w l.length 0 e = cap at hrn hge
        have hbs : (bytesRow ⟨l.toArray⟩ cap).size = cap := by
          simp only [bytesRow, Array.size_append, Array.size_map, Array.size_replicate, hsz]
          have : (l.toArray).size = l.length := by simp
          omega
        have hrd : HR w.drew G Z h := hr.drew
        have hs' := new_row (w := w.drew) hrd hG (c := .u8) (l := l) (vs := fun i j => .int .u8 ((l.getD i 0).toNat : Int)) (cs := bytesRow ⟨l.toArray⟩ cap) e ((bytesRow ⟨l.toArray⟩ cap).size, (bytesRow ⟨l.toArray⟩ cap).size + 1) (.inr (Nat.le_refl _))
          (fun i hi j hj => by
            simp only [csz] at hj ⊢
            obtain rfl : j = 0 := by omega
            unfold bytesRow
            rw [Nat.mul_one, Nat.add_zero, Array.getElem?_append_left (by simpa using hi)]
            simp [hi, List.getD])
          (fun i hi j hj => by
            simp only [csz] at hj
            obtain rfl : j = 0 := by omega
            simp only [enc, encLeaf, getT]
            exact .int _ _ (inR_u8.2 ⟨by omega, by have := UInt8.toNat_lt (l.getD i (dflt .u8)); omega⟩))
        refine ⟨_, _, _, _, ?_, own_new (w := w.drew.alloc _) (cap := cap) hge (shape_new w.drew _ e _) (by simp [csz, hbs]), SR.drew hs'⟩
        simp only [Sem.run_bind, hrn, Result.andThen_ok, Sem.run_pure]
        rfl
      · cases ho
    · rename_i e0 e hs hd
      split at ho
      · rename_i nm off len tl he hl
        rw [hl] at hx
        split at ho
        · rename_i c l hsd hg
          simp only [Option.some.injEq, Prod.mk.injEq, decide_eq_true_eq] at ho
          obtain ⟨hlen, rfl, rfl⟩ := ho
          have hsd' : s = d := by simpa using hsd
          subst hsd'
          rw [hs] at hd; cases hd
          cases hx with
          | own0 => omega
          | own _ _ _ _ _ ni b o cap e1 S h1 h2 h3 h4 h5 h6 h7 h8 =>
          obtain ⟨ni', q1, q2, q3, q4⟩ := hr.blk nm _ hg
          rw [h1] at q1; cases q1
          rcases q4 with ⟨q4, _⟩ | ⟨b', o', vs, r1, r2, r3, r4⟩
          · rw [h2] at q4; cases q4
          rw [h2] at r1; cases r1
          have he' := ext_freeze w b S e1 h7
          have hz : ∀ b', Z b' → ∀ (j : Nat), ¬ b' = b := fun b' hz _ e => by subst e; exact hr.zsep nm _ ni b' o hg rfl h1 h2 hz
          have hG1 : upd G nm ni = G := by
            funext n
            by_cases e : n = nm
            · subst e; rw [upd_same, h1]
            · rw [upd_ne _ _ e]
          have hsr := SR.upd (w' := w.freeze ⟨b, S, none⟩ 1) hr (nb := nm) (bl' := .row c l) (ni' := ni) hg rfl h1 h2 he' (.inl ⟨rfl, rfl⟩) rfl h2 (by
            rw [hG1]
            refine ⟨q2, q3, .inr ⟨b, o, vs, h2, ⟨fun i hi j hj => ?_, fun i hi j hj => ?_⟩, r3.mono he' r4, Nat.lt_of_lt_of_le r4 he'.size⟩⟩
            · rw [cell_freeze]; exact r2.cell i hi j hj
            · exact (r2.vr i hi j hj).mono he' hz (fun _ _ h => h) (fun _ h => h))
          rw [hG1] at hsr
          refine ⟨_, w.freeze ⟨b, S, none⟩ 1, G, Z, ?_, VR.mono (.own nm .u8 off len tl ni b o cap e1 S h1 h2 h3 h4 h5 h6 h7 h8) he' hz (fun _ _ h => h) (fun _ h => h), ((hsr.drop fun n hn => ?_).weak fun n hn => hn.elim).congr fun n => ?_⟩
          · have : (convert s s (.slice (some (ad b (o + off * csz .u8))) len cap)).run P w = .ok (.slice (some (ad b (o + off * csz .u8))) len cap) (w.freeze ⟨b, S, none⟩ 1) := by
              simp [convert, run_und hs, run_und he, markStringish, h7]
            simp only [Sem.run_bind, this, Result.andThen_ok, Sem.run_pure]
          · subst hn; exact ⟨⟨_, h1⟩, ⟨_, hg⟩⟩
          · simp only [hsetAll]
            rw [hget_hset, hget_hdel]
            split
            · rename_i e; subst e; exact hg
            · rfl
        · cases ho
      · cases ho
    · cases ho
  · cases ho
end
end Go.Eng
