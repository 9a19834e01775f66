/- A part of the evaluator of the program and of its proof: texts E43, E44, E45, E46, E47, E48, E49, E50, E51. -/
import Derived.Test.YtmokabokdhhdiaaGreatEngH
import Derived.Test.YtmokabokdhhdiaaGreatProg
import Derived.RangeFuncRecord
set_option linter.unusedVariables false
namespace Go.Eng
def tcTab : List (Nat × Cd) := [(3, .i64), (4, .bool), (5, .u8), (9, .str), (32, .st .Talk), (34, .st .A6), (38, .sl .u8), (48, .st .Learnt), (50, .u16), (51, .u32), (53, .st .Segment), (55, .st .A4), (60, .st .Packet), (76, .sl (.st .Segment)), (107, .st .Piece), (123, .st .Addr), (129, .st .Conn), (161, .st .Socks), (178, .st .Parcel), (270, .st .Sock), (294, .st .Route), (353, .st .Wait), (367, .st .Neigh), (370, .st .Thread), (386, .st .Hole), (403, .st .Part), (406, .st .Block)]
def inplTab : List Nat := [34, 37, 41, 42, 44, 46, 56, 58, 60, 62, 65, 67, 75, 77, 86, 87, 111, 112, 113, 114, 115, 116, 117, 118, 119, 120, 121, 122, 123, 125, 126, 128, 129, 131, 133, 134, 136, 140, 152, 153, 154, 157, 158, 159, 160, 161, 162, 163, 164, 165, 166, 168, 175, 177, 181, 182, 183, 184, 187, 188, 192, 196, 198, 199, 200, 201, 202, 203, 204, 205, 206, 208, 209, 210, 214, 215, 218, 220, 224, 226, 227, 228, 229, 231, 235, 241, 246, 248, 249, 253, 254, 256, 259, 266, 267]
def keepTab : List (Nat × Nat × List Nat) := [
  (3, 0, [1, 5, 6, 7, 9, 10]),
  (3, 2, [1, 5, 6, 7, 9, 10, 16, 19, 104, 105]),
  (3, 4, [1, 5, 6, 7, 9, 10, 119, 120]),
  (4, 0, [3, 4, 6, 7, 11, 175, 176, 177]),
  (5, 0, [1, 5, 6, 7, 8, 9, 10]),
  (5, 3, [1, 5, 6, 7, 8, 9, 10, 358, 359]),
  (6, 0, [1, 5, 7, 14, 15, 16, 17]),
  (7, 0, [0, 3, 4, 5, 6, 7, 8, 9]),
  (7, 3, [0, 3, 4, 5, 6, 7, 8, 9, 11, 219, 220, 221]),
  (14, 1, [1, 6, 9, 14, 71, 72]),
  (15, 0, [1, 2, 10, 11, 12, 30, 31, 32]),
  (15, 2, [0, 1, 2, 10, 56, 57, 58]),
  (15, 4, [0, 1, 2, 17, 18]),
  (16, 0, [3, 9, 10, 11]),
  (25, 0, [0, 6, 8, 9, 10]),
  (26, 0, [0, 1, 14, 15]),
  (34, 0, [0, 1, 2, 3, 8, 9, 10, 11, 35, 36, 37]),
  (34, 2, [0, 1, 2, 3, 8, 9, 10, 11, 13, 35, 36, 37, 42, 43, 44]),
  (34, 4, [0, 1, 8, 10, 11, 105, 106, 107]),
  (34, 6, [0, 10, 11, 22]),
  (34, 8, [0, 10, 11, 22, 23, 24]),
  (38, 0, [3, 7, 8, 9]),
  (49, 0, [1, 3, 52, 53, 54]),
  (75, 1, [0, 6, 7, 8, 10, 11, 80, 81, 82]),
  (75, 3, [0, 2, 4, 6, 7, 15, 16]),
  (76, 0, [3, 4, 6, 7, 10, 12, 13, 30, 31]),
  (77, 0, [0, 3, 4, 6, 7, 11, 29, 30]),
  (77, 2, [0, 3, 4, 6, 7, 11, 93, 94]),
  (77, 4, [0, 3, 4, 6, 7, 11, 16, 93, 94, 121, 122]),
  (78, 0, [0, 1, 12, 13]),
  (79, 0, [2, 3, 25, 26]),
  (79, 2, [2, 3, 6, 7, 25, 26, 70, 71]),
  (80, 0, [1, 15, 16, 17]),
  (84, 0, [2, 4, 5]),
  (96, 0, [0, 3, 6, 7]),
  (96, 2, [3]),
  (99, 0, [0, 4]),
  (100, 0, [3, 6, 7, 8]),
  (101, 0, [3, 6, 7, 8]),
  (102, 0, [6, 7, 11, 12, 13]),
  (103, 0, [2, 3, 13, 14, 15]),
  (107, 0, [2, 3, 4, 5, 9, 10, 11]),
  (118, 0, [0]),
  (119, 0, [0, 1, 5]),
  (145, 1, [3, 4, 7, 10, 13, 14]),
  (150, 0, [2, 6, 9, 10, 36, 37, 38]),
  (151, 0, [1, 4, 6, 22, 23]),
  (151, 2, [1, 4, 6, 8, 22, 23, 63, 64, 65]),
  (152, 0, [0, 8, 9]),
  (154, 0, [1, 10, 11, 12]),
  (156, 0, [2, 5, 8, 9, 10]),
  (158, 0, [0, 8, 9]),
  (159, 1, [8, 9, 44, 45]),
  (160, 0, [0, 1, 5, 13, 14]),
  (160, 2, [0, 1, 5, 7, 13, 14, 55, 56]),
  (162, 0, [0, 4, 8, 9, 10]),
  (164, 0, [0, 1, 7, 8]),
  (166, 0, [0, 1, 4, 5, 8, 9, 22, 23, 24]),
  (169, 0, [3, 6, 7, 8]),
  (174, 0, [2, 3, 9, 10, 11]),
  (176, 0, [3, 4, 8, 9, 10]),
  (177, 0, [0, 8, 9, 63, 64, 65]),
  (182, 0, [0, 2, 3, 5, 8, 9]),
  (183, 0, [0, 1, 5, 6]),
  (186, 0, [3, 4, 9, 10, 11]),
  (186, 2, [3, 4, 9, 10, 11, 15, 16, 17]),
  (206, 0, [0, 1, 7, 8]),
  (210, 0, [0, 1, 5, 6]),
  (212, 0, [2, 3, 9, 10, 11]),
  (217, 0, [1, 2, 4, 7]),
  (218, 0, [0, 2, 4, 8, 9, 10]),
  (221, 0, [1, 2, 3, 22, 23, 24]),
  (221, 2, [1, 2, 3, 6, 38, 39, 40]),
  (222, 0, [2, 3, 4, 15]),
  (226, 0, [0, 3, 4, 11, 12, 13]),
  (229, 0, [0, 1, 7, 8]),
  (231, 0, [0, 1, 7, 8]),
  (236, 0, [1, 2, 3, 11, 12, 13]),
  (237, 0, [3, 6, 7, 8]),
  (239, 0, [0, 1, 9, 10, 11]),
  (247, 0, [2, 4, 6, 10, 11, 12]),
  (254, 0, [0, 1, 5, 6]),
  (255, 0, [3, 9, 10, 11]),
  (255, 2, [3, 5, 6, 9, 10, 11, 16, 17, 18]),
  (259, 0, [0, 1, 2, 4]),
  (266, 0, [0, 2, 3]),
  (267, 0, [0, 1, 7, 8])]
def lookN {α : Type} (d : α) : List (Nat × α) → Nat → α
  | [], _ => d
  | (m, x) :: r, n => match Nat.beq m n with | true => x | false => lookN d r n
def lookK : List (Nat × Nat × List Nat) → Nat → Nat → List Nat
  | [], _, _ => []
  | (a, b, x) :: r, f, i => match Nat.beq a f && Nat.beq b i with | true => x | false => lookK r f i
def meTab : List (Nat × FuncId) := [(53, 285), (64, 286), (66, 287)]
noncomputable def cfgN : Cfg where
  P := Proofs.Tryz.prog
  tc := lookN .u8 tcTab
  inpl n := memN n inplTab
  keep := lookK keepTab
  meth t m := match m == "Proto" with
    | true => lookN none (meTab.map fun p => (p.1, some p.2)) t
    | false => none
  spec _ := none
  lspec _ _ := none
  hook _ _ := []
end Go.Eng

set_option linter.unusedVariables false
namespace Go.Eng

theorem names_ok : (Proofs.Tryz.prog.funcs.all fun fn => fn.name != "runtime.NumGoroutine") = true := by kernel_rfl
theorem mixed_ok : Proofs.Tryz.prog.follows .mixedOrders = true := by kernel_rfl
theorem me53 (v : Value) (w : World) : (method (Proofs.Tryz.prog.types.size + Made.depth) 53 v "Proto").run Proofs.Tryz.prog w = .ok (285, v) w := by kernel_rfl
theorem me64 (v : Value) (w : World) : (method (Proofs.Tryz.prog.types.size + Made.depth) 64 v "Proto").run Proofs.Tryz.prog w = .ok (286, v) w := by kernel_rfl
theorem me66 (v : Value) (w : World) : (method (Proofs.Tryz.prog.types.size + Made.depth) 66 v "Proto").run Proofs.Tryz.prog w = .ok (287, v) w := by kernel_rfl
theorem cfgN_names (f : FuncId) (fn : Func) (h : Proofs.Tryz.prog.funcs[f]? = some fn) : fn.name ≠ "runtime.NumGoroutine" := by
  have h1 := Array.all_eq_true_iff_forall_mem.1 names_ok fn (Array.mem_of_getElem? h)
  simpa using h1
theorem cfgN_meth (t : TypeId) (m : String) (f : FuncId) (h : cfgN.meth t m = some f) (v : Value) (w : World) : (method (cfgN.P.types.size + Made.depth) t v m).run cfgN.P w = .ok (f, v) w := by
  simp only [cfgN] at h ⊢
  split at h
  · rename_i hm
    have hm' : m = "Proto" := by simpa using hm
    subst hm'
    simp only [meTab, List.map, lookN] at h
    split at h
    · rename_i e; cases h; rw [← Nat.eq_of_beq_eq_true e]; exact me53 v w
    · split at h
      · rename_i e; cases h; rw [← Nat.eq_of_beq_eq_true e]; exact me64 v w
      · split at h
        · rename_i e; cases h; rw [← Nat.eq_of_beq_eq_true e]; exact me66 v w
        · cases h
  · cases h
theorem cfgN_ok : CfgOK cfgN := ⟨cfgN_names, cfgN_meth, fun f sp h => (by cases h), mixed_ok⟩

noncomputable def fn108 : Func := Proofs.Tryz.f108
theorem cl108_ok : SpecOK cfgN.P 108 (cloneSpec .u8) := by
  refine clone_ok cfgN_ok (hfl := by kernel_rfl) (fn := Proofs.Tryz.f108) (hb := rfl) (hf := by kernel_rfl) (hn := by kernel_rfl) (hres := by kernel_rfl) (e := 5) (hu := by kernel_rfl) ?_ ?_ ?_
  · intro l; kernel_rfl
  · intro l; kernel_rfl
  · intro l; kernel_rfl
noncomputable def fn89 : Func := Proofs.Tryz.f89
theorem cl89_ok : SpecOK cfgN.P 89 (cloneSpec (.st .Learnt)) := by
  refine clone_ok cfgN_ok (hfl := by kernel_rfl) (fn := Proofs.Tryz.f89) (hb := rfl) (hf := by kernel_rfl) (hn := by kernel_rfl) (hres := by kernel_rfl) (e := 48) (hu := by kernel_rfl) ?_ ?_ ?_
  · intro l; kernel_rfl
  · intro l; kernel_rfl
  · intro l; kernel_rfl
noncomputable def fn216 : Func := Proofs.Tryz.f216
theorem cl216_ok : SpecOK cfgN.P 216 (cloneSpec (.st .Route)) := by
  refine clone_ok cfgN_ok (hfl := by kernel_rfl) (fn := Proofs.Tryz.f216) (hb := rfl) (hf := by kernel_rfl) (hn := by kernel_rfl) (hres := by kernel_rfl) (e := 294) (hu := by kernel_rfl) ?_ ?_ ?_
  · intro l; kernel_rfl
  · intro l; kernel_rfl
  · intro l; kernel_rfl
noncomputable def fn242 : Func := Proofs.Tryz.f242
theorem cl242_ok : SpecOK cfgN.P 242 (cloneSpec (.st .Neigh)) := by
  refine clone_ok cfgN_ok (hfl := by kernel_rfl) (fn := Proofs.Tryz.f242) (hb := rfl) (hf := by kernel_rfl) (hn := by kernel_rfl) (hres := by kernel_rfl) (e := 367) (hu := by kernel_rfl) ?_ ?_ ?_
  · intro l; kernel_rfl
  · intro l; kernel_rfl
  · intro l; kernel_rfl
noncomputable def fn257 : Func := Proofs.Tryz.f257
theorem cl257_ok : SpecOK cfgN.P 257 (cloneSpec .str) := by
  refine clone_ok cfgN_ok (hfl := by kernel_rfl) (fn := Proofs.Tryz.f257) (hb := rfl) (hf := by kernel_rfl) (hn := by kernel_rfl) (hres := by kernel_rfl) (e := 9) (hu := by kernel_rfl) ?_ ?_ ?_
  · intro l; kernel_rfl
  · intro l; kernel_rfl
  · intro l; kernel_rfl
noncomputable def fn268 : Func := Proofs.Tryz.f268
theorem cl268_ok : SpecOK cfgN.P 268 (cloneSpec (.st .Block)) := by
  refine clone_ok cfgN_ok (hfl := by kernel_rfl) (fn := Proofs.Tryz.f268) (hb := rfl) (hf := by kernel_rfl) (hn := by kernel_rfl) (hres := by kernel_rfl) (e := 406) (hu := by kernel_rfl) ?_ ?_ ?_
  · intro l; kernel_rfl
  · intro l; kernel_rfl
  · intro l; kernel_rfl
noncomputable def fn269 : Func := Proofs.Tryz.f269
theorem cl269_ok : SpecOK cfgN.P 269 (cloneSpec .bool) := by
  refine clone_ok cfgN_ok (hfl := by kernel_rfl) (fn := Proofs.Tryz.f269) (hb := rfl) (hf := by kernel_rfl) (hn := by kernel_rfl) (hres := by kernel_rfl) (e := 4) (hu := by kernel_rfl) ?_ ?_ ?_
  · intro l; kernel_rfl
  · intro l; kernel_rfl
  · intro l; kernel_rfl
end Go.Eng

set_option linter.unusedVariables false
namespace Go.Eng
def clTab : List (Nat × Option Cd) := [(108, some .u8), (89, some (.st .Learnt)), (216, some (.st .Route)), (242, some (.st .Neigh)), (257, some .str), (268, some (.st .Block)), (269, some .bool)]
def specC (f : FuncId) : Option Spec := match lookN none clTab f with
  | some c => some (cloneSpec c)
  | none => none
noncomputable def cfgC : Cfg := { cfgN with spec := specC }
theorem specC_ok (f : FuncId) (sp : Spec) (h : specC f = some sp) : SpecOK cfgN.P f sp := by
  unfold specC at h
  split at h
  · rename_i c hc
    cases h
    simp only [clTab, lookN] at hc
    split at hc
    · rename_i e; cases hc; rw [← Nat.eq_of_beq_eq_true e]; exact cl108_ok
    split at hc
    · rename_i e; cases hc; rw [← Nat.eq_of_beq_eq_true e]; exact cl89_ok
    split at hc
    · rename_i e; cases hc; rw [← Nat.eq_of_beq_eq_true e]; exact cl216_ok
    split at hc
    · rename_i e; cases hc; rw [← Nat.eq_of_beq_eq_true e]; exact cl242_ok
    split at hc
    · rename_i e; cases hc; rw [← Nat.eq_of_beq_eq_true e]; exact cl257_ok
    split at hc
    · rename_i e; cases hc; rw [← Nat.eq_of_beq_eq_true e]; exact cl268_ok
    split at hc
    · rename_i e; cases hc; rw [← Nat.eq_of_beq_eq_true e]; exact cl269_ok
    cases hc
  · cases h
theorem CfgOK.withSpec {g : Cfg} (h : CfgOK g) {sp : FuncId → Option Spec} (hs : ∀ f s, sp f = some s → SpecOK g.P f s) : CfgOK { g with spec := sp } := ⟨h.names, h.meth, hs, h.mixed⟩
theorem cfgC_lp : LpAll cfgC := LpAll.none fun _ _ => rfl
theorem cfgC_ok : CfgOK cfgC := cfgN_ok.withSpec specC_ok
end Go.Eng

set_option linter.unusedVariables false
set_option linter.unusedSimpArgs false
namespace Go.Eng
open Go.RowKit

/-! ### Blocks that are no cells -/

def noCells (w : World) (L : Nat) : Prop := ∃ o : Obj, w.heap[L]? = some o ∧ ∀ cs e fr, o ≠ .cells cs e fr
section
variable {w : World} {G : Gh} {Z : Nat → Prop}

theorem ext_put {L : Nat} {o : Obj} (h : noCells w L) (ho : ∀ cs e fr, o ≠ .cells cs e fr) : Ext (fun b _ => b = L) w (w.putObj L o) := by
  obtain ⟨o0, h0, h1⟩ := h
  have hlt : L < w.heap.size := (Array.getElem?_eq_some_iff.1 h0).1
  have hat : ∀ b, (w.putObj L o).heap[b]? = if b = L then some o else w.heap[b]? := by
    intro b
    by_cases e : b = L
    · subst e; rw [if_pos rfl]; exact World.putObj_heap_same hlt
    · rw [if_neg e]; exact World.putObj_heap_other e
  refine ⟨rfl, rfl, rfl, by simp, fun b hb hn => ?_, fun b hb => ?_, fun b j hb hn => ?_, fun b hb hf => ?_⟩
  · rw [hat, if_neg (hn 0)]
  · unfold World.shape?
    rw [hat]
    by_cases e : b = L
    · subst e
      rw [if_pos rfl, h0]
      cases o <;> cases o0 <;> first | rfl | (exact absurd rfl (ho _ _ _)) | (exact absurd rfl (h1 _ _ _))
    · rw [if_neg e]
  · unfold World.cell?
    simp only [hat]
    rw [if_neg hn]
  · intro cs e lo hi hc
    rw [hat] at hc
    by_cases eb : b = L
    · rw [if_pos eb] at hc
      cases hc
      exact absurd rfl (ho _ _ _)
    · rw [if_neg eb] at hc
      exact hf cs e lo hi hc

/-- No name leads there. -/
def aside (G : Gh) (Z : Nat → Prop) (h : AH) (L : Nat) : Prop := (∀ nm bl ni b o, hget h nm = some bl → G nm = some ni → ni.blk = some (b, o) → b ≠ L) ∧ ¬ Z L

theorem put_vr {L : Nat} {o : Obj} (h : noCells w L) (ho : ∀ cs e fr, o ≠ .cells cs e fr) (hz : ¬ Z L) {x : AV} {v : Value} (hv : VR w G Z x v) : VR (w.putObj L o) G Z x v :=
  hv.mono (ext_put h ho) (fun b hb j e => hz (e ▸ hb)) (fun _ _ h => h) (fun _ h => h)
theorem put_hr {h : AH} {L : Nat} {o : Obj} (hn : noCells w L) (ho : ∀ cs e fr, o ≠ .cells cs e fr) (ha : aside G Z h L) (hr : HR w G Z h) : HR (w.putObj L o) G Z h where
  blk nm bl hh := by
    obtain ⟨ni, q1, q2⟩ := hr.blk nm bl hh
    exact ⟨ni, q1, q2.mono (ext_put hn ho) (fun b hb j e => ha.2 (e ▸ hb)) (fun _ _ h => h) (fun _ h => h) fun b o' hb j e => ha.1 nm bl ni b o' hh q1 hb e⟩
  sep := hr.sep
  zsep := hr.zsep
  zlt b hb := by rw [World.putObj_size]; exact hr.zlt b hb
theorem put_rel {dd : List Deferred} {s : St} {a : Act} {L : Nat} {o : Obj} (hn : noCells w L) (ho : ∀ cs e fr, o ≠ .cells cs e fr) (ha : aside G Z s.heap L) (hs : SRel dd s a w G Z) : SRel dd s a (w.putObj L o) G Z :=
  ⟨⟨hs.tr.len, fun t => put_vr hn ho ha.2 (hs.tr.at_ t)⟩, put_hr hn ho ha hs.hr, hs.fr, hs.df⟩
theorem put_sr {N : Nat → Prop} {w0 : World} {G0 : Gh} {Z0 : Nat → Prop} {h0 h : AH} {L : Nat} {o : Obj} (hn : noCells w L) (ho : ∀ cs e fr, o ≠ .cells cs e fr) (ha : aside G Z h L) (hL : w0.heap.size ≤ L) (s : SR N w0 G0 Z0 h0 w G Z h) :
    SR N w0 G0 Z0 h0 (w.putObj L o) G Z h where
  ext := s.ext.trans (ext_put hn ho) fun b j hb e => by subst e; omega
  gm := s.gm
  gn := s.gn
  zm := s.zm
  zn := s.zn
  own := s.own
  hn := s.hn
  hr := put_hr hn ho ha s.hr

/-- What holds while rounds go on: L the record, K the block for deferred calls. -/
structure Rnd (w0 : World) (G0 : Gh) (Z0 : Nat → Prop) (h0 : AH) (tm5 : List AV) (a5 : Array Value) (L K : Nat) (r : Loop) (h : AH) (w : World) (G : Gh) (Z : Nat → Prop) : Prop where
  sr : SR (1 ≤ ·) w0 G0 Z0 h0 w G Z h
  t5 : TR w G Z tm5 a5
  lo : w.heap[L]? = some (.loop r)
  de : w.heap[K]? = some (.deferred (some []))
  al : aside G Z h L
  ak : aside G Z h K
  le : w0.heap.size ≤ L ∧ w0.heap.size ≤ K ∧ L ≠ K

theorem Rnd.step {w0 : World} {G0 : Gh} {Z0 : Nat → Prop} {h0 : AH} {tm5 : List AV} {a5 : Array Value} {L K : Nat} {r : Loop} {h h' : AH} {w' : World} {G' : Gh} {Z' : Nat → Prop} {N : Nat → Prop}
    (i : Rnd w0 G0 Z0 h0 tm5 a5 L K r h w G Z) (t : SR N w G Z h w' G' Z' h') (hN : ∀ n, N n → 1 ≤ n) : Rnd w0 G0 Z0 h0 tm5 a5 L K r h' w' G' Z' := by
  have hr := i.sr.hr
  have hb : ∀ {X : Nat}, aside G Z h X → X < w.heap.size → (w'.heap[X]? = w.heap[X]?) ∧ aside G' Z' h' X := by
    intro X ha hX
    have hw : ∀ j, ¬ WrH G h X j := by
      rintro j ⟨nm, bl, ni, o, h1, h2, h3, h4⟩
      exact ha.1 nm bl ni X o h1 h3 h4 rfl
    refine ⟨t.ext.blk X hX hw, ?_, fun hz => ?_⟩
    · intro nm bl ni b o h1 h2 h3 e
      subst e
      rcases t.own nm bl ni b o h1 h2 h3 with q | ⟨nm0, bl0, ni0, o0, q1, q2, q3, _⟩
      · omega
      · exact ha.1 nm0 bl0 ni0 b o0 q1 q2 q3 rfl
    · rcases t.zn X hz with q | q | q
      · exact ha.2 q
      · omega
      · exact hw 0 q
  have hL : L < w.heap.size := (Array.getElem?_eq_some_iff.1 i.lo).1
  have hK : K < w.heap.size := (Array.getElem?_eq_some_iff.1 i.de).1
  obtain ⟨l1, l2⟩ := hb i.al hL
  obtain ⟨k1, k2⟩ := hb i.ak hK
  exact ⟨(i.sr.trans t).weak fun n hn => hn.elim (fun h => h) (hN n), ⟨i.t5.len, fun t' => t.vr hr (i.t5.at_ t')⟩, l1.trans i.lo, k1.trans i.de, l2, k2, i.le⟩

theorem loop_nc {L : Nat} {r : Loop} (h : w.heap[L]? = some (.loop r)) : noCells w L := ⟨_, h, fun _ _ _ e => by cases e⟩
theorem Rnd.put {w0 : World} {G0 : Gh} {Z0 : Nat → Prop} {h0 : AH} {tm5 : List AV} {a5 : Array Value} {L K : Nat} {r : Loop} {h : AH}
    (i : Rnd w0 G0 Z0 h0 tm5 a5 L K r h w G Z) (r' : Loop) : Rnd w0 G0 Z0 h0 tm5 a5 L K r' h (w.putObj L (.loop r')) G Z := by
  have hn := loop_nc i.lo
  have ho : ∀ cs e fr, Obj.loop r' ≠ .cells cs e fr := fun _ _ _ e => by cases e
  refine ⟨put_sr hn ho i.al i.le.1 i.sr, ⟨i.t5.len, fun t => put_vr hn ho i.al.2 (i.t5.at_ t)⟩, ?_, ?_, i.al, i.ak, i.le⟩
  · exact World.putObj_heap_same (Array.getElem?_eq_some_iff.1 i.lo).1
  · rw [World.putObj_heap_other (Ne.symm i.le.2.2)]; exact i.de
theorem Rnd.rel {dd : List Deferred} {w0 : World} {G0 : Gh} {Z0 : Nat → Prop} {h0 : AH} {tm5 : List AV} {a5 : Array Value} {L K : Nat} {r : Loop} {s : St} {a : Act}
    (i : Rnd w0 G0 Z0 h0 tm5 a5 L K r s.heap w G Z) (r' : Loop) (hs : SRel dd s a w G Z) : SRel dd s a (w.putObj L (.loop r')) G Z :=
  put_rel (loop_nc i.lo) (fun _ _ _ e => by cases e) i.al hs
end

/-! ### Pieces of code, and of regions -/

theorem evt_ev {g : Cfg} (hg : CfgOK g) (hL : LpAll g) {n f base bid : Nat} {c : Code} {s s' : St} {e : Ex} (hc : LpOK g f bid c) (h : ev (R := Ex × St) g (callIn g n) n f base bid c s (fun e s => some (e, s)) = some (e, s')) (hle : base ≤ s.ctr) : EvT g.P base c s e s' := by
  obtain ⟨e1, s1, hk, hE⟩ := ev_ok hg (callIn_ok hg hL n) c bid s _ _ hc h hle
  cases hk
  exact hE

/-- A piece, told from where it begins. -/
theorem evt_loc {P : Program} {c : Code} {s s' : St} {e : Ex} (h : EvT P s.ctr c s e s') {dd : List Deferred} {a : Act} {w : World} {G : Gh} {Z : Nat → Prop} (hs : SRel dd s a w G Z) (ro : Option Nat) (m : Nat) {Q : Exit → Act → World → Prop}
    (hQ : ∀ a' w' G' Z', SRel dd s' a' w' G' Z' → SR (s.ctr ≤ ·) w G Z s.heap w' G' Z' s'.heap → Q (exOf e) a' w') : c.wpIn (FW ro) m P Q a w := by
  refine wpIn_mono (h.2 a w G Z hs w G Z s.heap hs.fr (.refl hs.hr) ro m) ?_
  rintro x a' w' ⟨rfl, G', Z', hs', hsr⟩
  exact hQ a' w' G' Z' hs' hsr

theorem wpListIn_app {F : Fence} {n : Nat} {P : Program} {ops : Array Oper} {Q : Exit → Act → World → Prop} {post : List Oper} : ∀ (pre : List Oper) (a : Act) (w : World), wpListIn F n P ops (Exit.then (wpListIn F n P ops Q post) Q) pre a w → wpListIn F n P ops Q (pre ++ post) a w
  | [], a, w, h => h
  | o :: pre, a, w, h => by
    simp only [List.cons_append, wpListIn] at h ⊢
    split at h
    · rename_i hw
      rw [if_pos hw]
      have h2 : o.wpIn F n P a w (wpListIn F n P ops (Exit.then (wpListIn F n P ops Q post) Q) pre) Q := h
      exact Oper.wpIn_mono (fun a w hh => wpListIn_app pre a w hh) h2
    · rename_i hw
      rw [if_neg hw]
      exact ⟨h.1, wpListIn_app pre _ _ h.2⟩

noncomputable def nav : List Nat → Code → Code
  | [], c => c
  | 0 :: r, .seq a _ => nav r a
  | _ :: r, .seq _ b => nav r b
  | 0 :: r, .cond _ a _ => nav r a
  | _ :: r, .cond _ _ b => nav r b
  | _ :: r, .block _ b => nav r b
  | _ :: r, .loop b => nav r b
  | 0 :: r, .rangeFunc _ _ a _ => nav r a
  | _ :: r, .rangeFunc _ _ _ b => nav r b
  | _, c => c
noncomputable def bodyOf (fn : Func) : Code := match fn.body with | some c => c | none => .skip
noncomputable def opsOf : Code → List Oper
  | .region _ o _ => o.toList
  | _ => []
noncomputable def evX (g : Cfg) (n f : Nat) (c : Code) (s : St) : Option (Ex × St) := ev (R := Ex × St) g (callIn g n) n f s.ctr 0 c s fun e s => some (e, s)
noncomputable def evG (g : Cfg) (n f : Nat) (c : Code) (s : St) : St := ((evX g n f c s).getD (.norm, s)).2
end Go.Eng

set_option linter.unusedVariables false
set_option linter.unusedSimpArgs false
namespace Go.Eng
open Go.RowKit

/-! ### frag.Split of eight bytes: the states -/

structure SpIn where
  I : Int
  T : UInt8
  Pr : UInt8
  Sr : A4
  Ds : A4
  (x0 x1 x2 x3 x4 x5 x6 x7 : UInt8)
def SpIn.d (x : SpIn) : List UInt8 := [x.x0, x.x1, x.x2, x.x3, x.x4, x.x5, x.x6, x.x7]
def SpIn.p (x : SpIn) : PacketS := ⟨x.I, false, 0, x.T, x.Pr, x.Sr, x.Ds, x.d⟩
def spC (x : SpIn) : List AV := [.int .u16 x.I, .bool false, .int .i64 0, .int .u8 x.T.toNat, .int .u8 x.Pr.toNat, .int .u8 x.Sr.b0.toNat, .int .u8 x.Sr.b1.toNat, .int .u8 x.Sr.b2.toNat, .int .u8 x.Sr.b3.toNat, .int .u8 x.Ds.b0.toNat, .int .u8 x.Ds.b1.toNat, .int .u8 x.Ds.b2.toNat, .int .u8 x.Ds.b3.toNat, .xown 0 .u8 0 8]
def spB (x : SpIn) : List AV := [.int .u8 x.x0.toNat, .int .u8 x.x1.toNat, .int .u8 x.x2.toNat, .int .u8 x.x3.toNat, .int .u8 x.x4.toNat, .int .u8 x.x5.toNat, .int .u8 x.x6.toNat, .int .u8 x.x7.toNat]
def spH (x : SpIn) : AH := [(0, .rexp (spB x))]
noncomputable def c223 : Code := bodyOf Proofs.Tryz.f223
noncomputable def c259 : Code := bodyOf Proofs.Tryz.f259
noncomputable def r4 : List Oper := opsOf (nav [1, 0, 0, 1, 0, 0, 1, 0] c259)
noncomputable def o10 : Oper := r4.getD 10 default
noncomputable def o11 : Oper := r4.getD 11 default
theorem body223 : Proofs.Tryz.f223.body = some (.seq (nav [0] c223) (.seq (nav [1, 0] c223) (.seq (nav [1, 1, 0] c223) (.seq (nav [1, 1, 1, 0] c223)
    (.seq (.seq (nav [1, 1, 1, 1, 0, 0] c223) (.block 0 (.rangeFunc (.tmp 20) #[21] (nav [1, 1, 1, 1, 0, 1, 0, 0] c223) (nav [1, 1, 1, 1, 0, 1, 0, 1] c223))))
      (.seq (nav [1, 1, 1, 1, 1, 0] c223) (.seq (nav [1, 1, 1, 1, 1, 1, 0] c223) .ret))))))) := by kernel_rfl
theorem body259 : Proofs.Tryz.f259.body = some (.seq (nav [0] c259) (.block 0 (.loop (.seq (nav [1, 0, 0, 0] c259) (.seq (.block 1 (.seq (nav [1, 0, 0, 1, 0, 0, 0] c259)
    (.seq (.region 4 r4.toArray false) (nav [1, 0, 0, 1, 0, 0, 1, 1] c259)))) (nav [1, 0, 0, 1, 1] c259)))))) := by kernel_rfl
theorem r4_split : r4 = r4.take 10 ++ [o10, o11] := by kernel_rfl
theorem r4_len : (r4.take 10).length = 10 := by kernel_rfl
theorem o10_op : o10.op = .call { callee := .value (.tmp 19), args := #[.tmp 28], argTypes := #[38] } := by kernel_rfl
theorem o10_dst : o10.dst = some 29 := by kernel_rfl
theorem o10_gd : o10.guard = none := by kernel_rfl
theorem o11_op : o11.op = .unOp .not 4 (.tmp 29) := by kernel_rfl
theorem o11_dst : o11.dst = some 30 := by kernel_rfl
theorem o11_gd : o11.guard = none := by kernel_rfl

noncomputable def q0 (x : SpIn) : St := ⟨[.agg (spC x)] ++ tops 49, spH x, 1⟩
noncomputable def q1 (x : SpIn) : St := evG cfgC 40 223 (nav [0] c223) (q0 x)
noncomputable def q2 (x : SpIn) : St := evG cfgC 40 223 (nav [1, 0] c223) (q1 x)
noncomputable def q3 (x : SpIn) : St := evG cfgC 40 223 (nav [1, 1, 0] c223) (q2 x)
noncomputable def q4 (x : SpIn) : St := evG cfgC 40 223 (nav [1, 1, 1, 0] c223) (q3 x)
noncomputable def q5 (x : SpIn) : St := evG cfgC 40 223 (nav [1, 1, 1, 1, 0, 0] c223) (q4 x)
noncomputable def y0 (x : SpIn) (L : Nat) : St := ⟨[.known (.func (.yield L) #[] #[]), .ptr 1153 0, .ptr 1217 0] ++ tops 28, (q5 x).heap, (q5 x).ctr⟩
noncomputable def y1 (x : SpIn) (L : Nat) : St := evG cfgC 40 259 (nav [0] c259) (y0 x L)
noncomputable def y2 (x : SpIn) (L : Nat) : St := evG cfgC 40 259 (nav [1, 0, 0, 0] c259) (y1 x L)
noncomputable def y3 (x : SpIn) (L : Nat) : St := evG cfgC 40 259 (nav [1, 0, 0, 1, 0, 0, 0] c259) (y2 x L)
noncomputable def y3' (x : SpIn) (L : Nat) : St := { y3 x L with ctr := (y3 x L).ctr + 64 * 12 }
noncomputable def e4 (x : SpIn) (L : Nat) : Option St := evOps (R := St) cfgC (callIn cfgC 40) 40 r4 (y3 x L).ctr 0 (r4.take 10) (y3' x L) some
noncomputable def y4 (x : SpIn) (L : Nat) : St := (e4 x L).getD (y3 x L)
noncomputable def b0 (x : SpIn) (L : Nat) : St := ⟨setT (q5 x).tmps 21 (.xown 0 .u8 0 8), (y4 x L).heap, (y4 x L).ctr⟩
noncomputable def b1 (x : SpIn) (L : Nat) : St := evG cfgC 40 223 (nav [1, 1, 1, 1, 0, 1, 0, 0] c223) (b0 x L)
noncomputable def b2 (x : SpIn) (L : Nat) : St := evG cfgC 40 223 (nav [1, 1, 1, 1, 0, 1, 0, 1] c223) (b1 x L)
noncomputable def y5 (x : SpIn) (L : Nat) : St := ⟨setT (y4 x L).tmps 29 (.bool true), (b2 x L).heap, (b2 x L).ctr⟩
noncomputable def y6 (x : SpIn) (L : Nat) : St := { y5 x L with tmps := setT (y5 x L).tmps 30 (.bool false) }
noncomputable def y7 (x : SpIn) (L : Nat) : St := evG cfgC 40 259 (nav [1, 0, 0, 1, 0, 0, 1, 1] c259) (y6 x L)
noncomputable def y8 (x : SpIn) (L : Nat) : St := evG cfgC 40 259 (nav [1, 0, 0, 1, 1] c259) (y7 x L)
noncomputable def y9 (x : SpIn) (L : Nat) : St := evG cfgC 40 259 (nav [1, 0, 0, 0] c259) (y8 x L)
noncomputable def z0 (x : SpIn) (L : Nat) : St := ⟨(q5 x).tmps, (y9 x L).heap, (y9 x L).ctr⟩
noncomputable def z1 (x : SpIn) (L : Nat) : St := evG cfgC 40 223 (nav [1, 1, 1, 1, 1, 0] c223) (z0 x L)
noncomputable def z2 (x : SpIn) (L : Nat) : St := evG cfgC 40 223 (nav [1, 1, 1, 1, 1, 1, 0] c223) (z1 x L)

theorem fq1 (x : SpIn) : evX cfgC 40 223 (nav [0] c223) (q0 x) = some (.norm, q1 x) := by kernel_rfl
theorem fq2 (x : SpIn) : evX cfgC 40 223 (nav [1, 0] c223) (q1 x) = some (.norm, q2 x) := by kernel_rfl
theorem fq3 (x : SpIn) : evX cfgC 40 223 (nav [1, 1, 0] c223) (q2 x) = some (.norm, q3 x) := by kernel_rfl
theorem fq4 (x : SpIn) : evX cfgC 40 223 (nav [1, 1, 1, 0] c223) (q3 x) = some (.norm, q4 x) := by kernel_rfl
theorem fq5 (x : SpIn) : evX cfgC 40 223 (nav [1, 1, 1, 1, 0, 0] c223) (q4 x) = some (.norm, q5 x) := by kernel_rfl
theorem fq5t (x : SpIn) : getT (q5 x).tmps 20 = .fn 259 [.ptr 1153 0, .ptr 1217 0] := by kernel_rfl
theorem fq5c (x : SpIn) : (q5 x).ctr = 1601 := by kernel_rfl
theorem fy1 (x : SpIn) (L : Nat) : evX cfgC 40 259 (nav [0] c259) (y0 x L) = some (.norm, y1 x L) := by kernel_rfl
theorem fy2 (x : SpIn) (L : Nat) : evX cfgC 40 259 (nav [1, 0, 0, 0] c259) (y1 x L) = some (.norm, y2 x L) := by kernel_rfl
theorem fy3 (x : SpIn) (L : Nat) : evX cfgC 40 259 (nav [1, 0, 0, 1, 0, 0, 0] c259) (y2 x L) = some (.norm, y3 x L) := by kernel_rfl
theorem fy4 (x : SpIn) (L : Nat) : e4 x L = some (y4 x L) := by kernel_rfl
theorem fy4' (x : SpIn) (L : Nat) : evOps (R := St) cfgC (callIn cfgC 40) 40 r4.toArray.toList (y3 x L).ctr 0 (r4.take 10) (y3' x L) some = some (y4 x L) := by kernel_rfl
theorem fy4a (x : SpIn) (L : Nat) : getT (y4 x L).tmps 19 = .known (.func (.yield L) #[] #[]) := by kernel_rfl
theorem fy4b (x : SpIn) (L : Nat) : getT (y4 x L).tmps 28 = .xown 0 .u8 0 8 := by kernel_rfl
theorem fy4l (x : SpIn) (L : Nat) : (y4 x L).tmps.length = 31 := by kernel_rfl
theorem fb1 (x : SpIn) (L : Nat) : evX cfgC 40 223 (nav [1, 1, 1, 1, 0, 1, 0, 0] c223) (b0 x L) = some (.norm, b1 x L) := by kernel_rfl
theorem fb2 (x : SpIn) (L : Nat) : evX cfgC 40 223 (nav [1, 1, 1, 1, 0, 1, 0, 1] c223) (b1 x L) = some (.norm, b2 x L) := by kernel_rfl
theorem fy7 (x : SpIn) (L : Nat) : evX cfgC 40 259 (nav [1, 0, 0, 1, 0, 0, 1, 1] c259) (y6 x L) = some (.norm, y7 x L) := by kernel_rfl
theorem fy8 (x : SpIn) (L : Nat) : evX cfgC 40 259 (nav [1, 0, 0, 1, 1] c259) (y7 x L) = some (.norm, y8 x L) := by kernel_rfl
theorem fy9 (x : SpIn) (L : Nat) : evX cfgC 40 259 (nav [1, 0, 0, 0] c259) (y8 x L) = some (.exit 0, y9 x L) := by kernel_rfl
theorem fz1 (x : SpIn) (L : Nat) : evX cfgC 40 223 (nav [1, 1, 1, 1, 1, 0] c223) (z0 x L) = some (.norm, z1 x L) := by kernel_rfl
theorem fz2 (x : SpIn) (L : Nat) : evX cfgC 40 223 (nav [1, 1, 1, 1, 1, 1, 0] c223) (z1 x L) = some (.norm, z2 x L) := by kernel_rfl
theorem fzr (x : SpIn) (L : Nat) : resV cfgC (z2 x L) Proofs.Tryz.f223.results.toList = some (.tup [.own 4865 (.st .Packet) 0 1 true, .int .i64 0]) := by kernel_rfl
def u8' (x : UInt8) : UInt8 := UInt8.ofNat ((x.toNat : Int)).toNat
theorem u8'_eq (x : UInt8) : u8' x = x := by simp [u8']
theorem fzh' (x : SpIn) (L : Nat) : hget (z2 x L).heap 4865 = some (.row (.st .Packet) [⟨x.I, false, 0, u8' x.T, u8' x.Pr, ⟨u8' x.Sr.b0, u8' x.Sr.b1, u8' x.Sr.b2, u8' x.Sr.b3⟩, ⟨u8' x.Ds.b0, u8' x.Ds.b1, u8' x.Ds.b2, u8' x.Ds.b3⟩, [u8' x.x0, u8' x.x1, u8' x.x2, u8' x.x3, u8' x.x4, u8' x.x5, u8' x.x6, u8' x.x7]⟩]) := by kernel_rfl
theorem fzh (x : SpIn) (L : Nat) : hget (z2 x L).heap 4865 = some (.row (.st .Packet) [x.p]) := by
  rw [fzh']
  simp only [u8'_eq]
  rfl
theorem nt223 : Proofs.Tryz.f223.ntmps = 50 := by kernel_rfl
theorem nt259 : Proofs.Tryz.f259.ntmps = 31 := by kernel_rfl
theorem rs259 : Proofs.Tryz.f259.results = #[] := by kernel_rfl
end Go.Eng

set_option linter.unusedVariables false
set_option linter.unusedSimpArgs false
namespace Go.Eng
open Go.RowKit

theorem cfgC_nl (f b : Nat) : cfgC.lspec f b = none := rfl
attribute [local irreducible] q1 q2 q3 q4 q5 y1 y2 y3 y4 b1 b2 y7 y8 y9 z1 z2 r4 o10 o11 c223 c259 nav e4 evG evX evOps cfgC callIn

theorem evx {f : Nat} {c : Code} {s s' : St} {e : Ex} (h : evX cfgC 40 f c s = some (e, s')) : EvT cfgC.P s.ctr c s e s' := by
  unfold evX at h
  exact evt_ev cfgC_ok cfgC_lp (fun p _ ls hls => by cases (cfgC_nl f p.1).symm.trans hls) h (Nat.le_refl _)

theorem ctr_mono {c : Code} {s s' : St} {e : Ex} (h : EvT cfgC.P s.ctr c s e s') : s.ctr ≤ s'.ctr := h.1

theorem two_alloc {w : World} {o1 o2 : Obj} : Ext (fun _ _ => False) w ((w.alloc o1).alloc o2) :=
  (ext_alloc w o1).trans (ext_alloc _ o2) fun _ _ _ h => h

theorem y3'_ctr (x : SpIn) (L : Nat) : (y3' x L).ctr = (y3 x L).ctr + 64 * 12 := by unfold y3'; rfl
theorem y3'_bd (x : SpIn) (L : Nat) : (y3 x L).ctr + 64 * (0 + (r4.take 10).length) ≤ (y3' x L).ctr := by
  rw [y3'_ctr, r4_len]
  omega
theorem y34 (x : SpIn) (L : Nat) : (y3 x L).ctr ≤ (y4 x L).ctr := by
  obtain ⟨s', hk, hle, _⟩ := @evOps_ok St cfgC cfgC_ok (callIn cfgC 40) (callIn_ok cfgC_ok cfgC_lp 40) 40 r4.toArray (y3 x L).ctr some (y4 x L) (r4.take 10) 0 (y3' x L) (fy4' x L) (y3'_bd x L)
  have hk' : s' = y4 x L := Option.some.inj hk
  subst hk'
  have := y3'_ctr x L
  omega

theorem round_ok (x : SpIn) {w0 : World} {G0 : Gh} {Z0 : Nat → Prop} {h0 : AH} {a5 : Array Value} {L K : Nat} {r : Loop} {ay : Act} {wy : World} {Gy : Gh} {Zy : Nat → Prop}
    (hR : Rnd w0 G0 Z0 h0 (q5 x).tmps a5 L K r (y4 x L).heap wy Gy Zy) (hs : SRel [] (y4 x L) ay wy Gy Zy) (hst : r.state = .ready) (hpn : r.pending = none) (htm : r.tmps = a5) (hps : r.params = #[21])
    (has : r.assign = nav [1, 1, 1, 1, 0, 1, 0, 0] c223) (hbd : r.body = nav [1, 1, 1, 1, 0, 1, 0, 1] c223)
    {m : Nat} {Kn : Act → World → Prop} {Q : Exit → Act → World → Prop}
    (hK : ∀ w' G' Z', Rnd w0 G0 Z0 h0 (q5 x).tmps a5 L K r (y5 x L).heap w' G' Z' → SRel [] (y5 x L) (ay.put (some 29) (.bool true)) w' G' Z' → Kn (ay.put (some 29) (.bool true)) w') :
    o10.wpIn (FW none) m cfgC.P ay wy Kn Q := by
  have hloc : ay.eval (.tmp 19) = .func (.yield L) #[] #[] := by
    have := ev1_ok hs.tr (.tmp 19)
    rw [show ev1 (y4 x L).tmps (.tmp 19) = .known (.func (.yield L) #[] #[]) from fy4a x L] at this
    obtain ⟨u, hu⟩ : ∃ u, u = ay.eval (.tmp 19) := ⟨_, rfl⟩
    rw [← hu] at this ⊢
    cases this
    rfl
  have hpv : VR wy Gy Zy (.xown 0 .u8 0 8) (ay.eval (.tmp 28)) := by
    have := ev1_ok hs.tr (.tmp 28)
    rwa [show ev1 (y4 x L).tmps (.tmp 28) = .xown 0 .u8 0 8 from fy4b x L] at this
  have hrun : (execOp ay.eval o10).run cfgC.P wy = .ok (.round L r.fn (a5.setIfInBounds 21 (ay.eval (.tmp 28))) r.assign r.body) wy := by
    have hy := run_yield (P := cfgC.P) (args := #[ay.eval (.tmp 28)]) hR.lo (by rw [hps]; rfl)
    rw [hps, htm] at hy
    unfold execOp
    rw [o10_op]
    simp only [resolve, hloc]
    simp [Deferred.ofValue, invoke]
    simpa using hy
  refine ⟨fun _ _ => trivial, ?_⟩
  rw [Oper.semAt_eq _ _ _ (by rw [o10_op]; intro c e; cases e), hrun]
  refine ⟨fun h => (by cases h), roundIn_of_wpIn trivial ?_⟩
  have hs0 : SRel [] (b0 x L) { tmps := a5.setIfInBounds 21 (ay.eval (.tmp 28)), defers := [] } wy Gy Zy := ⟨hR.t5.set hpv 21, hs.hr, hs.fr, rfl⟩
  rw [has]
  refine evt_loc (evx (fb1 x L)) hs0 (some L) (m - 1) ?_
  intro a1 w1 G1 Z1 hs1 sr1
  have hc0 : 1 ≤ (b0 x L).ctr := by
    have h1 := fq5c x
    have h0 := ctr_mono (evx (fy1 x L))
    have h2 := ctr_mono (evx (fy2 x L))
    have h3 := ctr_mono (evx (fy3 x L))
    have h4 := y34 x L
    have h5 : (q5 x).ctr = (y0 x L).ctr := rfl
    show 1 ≤ (y4 x L).ctr
    omega
  have hR1 : Rnd w0 G0 Z0 h0 (q5 x).tmps a5 L K r (b1 x L).heap w1 G1 Z1 := hR.step (h := (b0 x L).heap) sr1 fun n hn => Nat.le_trans hc0 hn
  have hc1 : 1 ≤ (b1 x L).ctr := Nat.le_trans hc0 (ctr_mono (evx (fb1 x L)))
  refine ⟨_, run_beginRound hR1.lo hst, ?_⟩
  obtain ⟨rb, hrb⟩ : ∃ rb : Loop, rb = { r with state := .busy } := ⟨_, rfl⟩
  rw [← hrb]
  have hR1' := hR1.put rb
  have hs1' := hR1.rel rb hs1
  rw [hbd]
  refine evt_loc (evx (fb2 x L)) hs1' (some L) (m - 1) ?_
  intro a2 w2 G2 Z2 hs2 sr2
  have hR2 := hR1'.step sr2 fun n hn => Nat.le_trans hc1 hn
  refine ⟨_, _, run_endRound none hR2.lo, ?_⟩
  have hr' : ({ rb with state := if (none : Option Code).isNone then LoopState.ready else LoopState.done, pending := (none : Option Code) } : Loop) = r := by
    subst hrb
    cases r
    simp only at hst hpn
    subst hst hpn
    rfl
  rw [hr']
  have hR3 := hR2.put r
  have hs3 := hR2.rel r hs2
  rw [o10_dst]
  refine hK _ G2 Z2 hR3 ⟨?_, hs3.hr, hs3.fr, (put_defers _ _ _).trans hs.df⟩
  have hy : TR (w2.putObj L (.loop r)) G2 Z2 (y4 x L).tmps ay.tmps := by
    refine ⟨hs.tr.len, fun t => ?_⟩
    have h1 := sr1.vr hs0.hr (hs.tr.at_ t)
    have h2 := put_vr (o := .loop rb) (loop_nc hR1.lo) (fun _ _ _ e => by cases e) hR1.al.2 h1
    have h3 := sr2.vr hs1'.hr h2
    exact put_vr (o := .loop r) (loop_nc hR2.lo) (fun _ _ _ e => by cases e) hR2.al.2 h3
  exact hy.set (.bool true) 29
end Go.Eng

set_option linter.unusedVariables false
set_option linter.unusedSimpArgs false
namespace Go.Eng
open Go.RowKit
attribute [local irreducible] q1 q2 q3 q4 q5 y1 y2 y3 y4 b1 b2 y7 y8 y9 z1 z2 r4 o10 o11 c223 c259 nav e4 evG evX evOps cfgC callIn

theorem f259_at : cfgC.P.funcs[259]? = some Proofs.Tryz.f259 := by kernel_rfl
theorem f223_at : cfgC.P.funcs[223]? = some Proofs.Tryz.f223 := by kernel_rfl
theorem r4_list : r4.toArray.toList = r4.take 10 ++ [o10, o11] := by
  have h : r4.toArray.toList = r4 := rfl
  rw [h]
  exact r4_split

theorem o11_does {a : Act} {w : World} (h : a.eval (.tmp 29) = .bool true) : Does cfgC.P o11 a w (fun u w' => u = .bool false ∧ w' = w) := by
  refine Does.of_value (u := .bool false) (w' := w) (by rw [o11_op]; intro c e; cases e) ?_ ⟨rfl, rfl⟩
  unfold execOp
  rw [o11_op]
  simp [h, Op.unary]

set_option maxHeartbeats 2000000 in
theorem iter_ok (x : SpIn) {w0 : World} {G0 : Gh} {Z0 : Nat → Prop} {h0 : AH} {a5 : Array Value} {L K : Nat} {r : Loop} {W : World} {G : Gh} {Z : Nat → Prop}
    (hR : Rnd w0 G0 Z0 h0 (q5 x).tmps a5 L K r (q5 x).heap W G Z) (hfr : ∀ n, (q5 x).ctr ≤ n → G n = none) (hst : r.state = .ready) (hpn : r.pending = none) (htm : r.tmps = a5) (hps : r.params = #[21])
    (has : r.assign = nav [1, 1, 1, 1, 0, 1, 0, 0] c223) (hbd : r.body = nav [1, 1, 1, 1, 0, 1, 0, 1] c223) {lb : Array Value} (hl : lb.size = 2) (v1 : VR W G Z (.ptr 1153 0) (lb.getD 0 undef)) (v2 : VR W G Z (.ptr 1217 0) (lb.getD 1 undef))
    {m : Nat} {R : Ending → World → Prop} (hK : ∀ v w' G' Z', Rnd w0 G0 Z0 h0 (q5 x).tmps a5 L K r (y9 x L).heap w' G' Z' → (∀ n, (y9 x L).ctr ≤ n → G' n = none) → R (.returned v) w') :
    CallsIn (FW none) m cfgC.P 259 (#[.func (.yield L) #[] #[]] ++ lb) W R := by
  refine callsIn_of_wp f259_at body259 trivial ?_
  obtain ⟨l0, l1, rfl⟩ : ∃ l0 l1, lb = #[l0, l1] := by
    obtain ⟨lb⟩ := lb
    rcases lb with _ | ⟨l0, _ | ⟨l1, _ | ⟨l2, r⟩⟩⟩ <;> simp at hl
    exact ⟨l0, l1, rfl⟩
  have hs0 : SRel [] (y0 x L) { tmps := (#[.func (.yield L) #[] #[]] ++ #[l0, l1]) ++ Array.replicate (Proofs.Tryz.f259.ntmps - (#[Value.func (.yield L) #[] #[]] ++ #[l0, l1]).size) undef, defers := [] } W G Z := by
    refine ⟨⟨?_, ?_⟩, hR.sr.hr, hfr, rfl⟩
    · simp [y0, tops, nt259]
    · intro t
      rcases t with _ | _ | _ | t
      · have e : ((#[Value.func (.yield L) #[] #[]] ++ #[l0, l1]) ++ Array.replicate (Proofs.Tryz.f259.ntmps - (#[Value.func (.yield L) #[] #[]] ++ #[l0, l1]).size) undef).getD 0 undef = .func (.yield L) #[] #[] := by
          rw [Array.getD_eq_getD_getElem?, Array.getElem?_append_left (by simp)]; rfl
        rw [e]
        exact .known _
      · have e : ((#[Value.func (.yield L) #[] #[]] ++ #[l0, l1]) ++ Array.replicate (Proofs.Tryz.f259.ntmps - (#[Value.func (.yield L) #[] #[]] ++ #[l0, l1]).size) undef).getD 1 undef = l0 := by
          rw [Array.getD_eq_getD_getElem?, Array.getElem?_append_left (by simp)]; rfl
        rw [e]
        exact v1
      · have e : ((#[Value.func (.yield L) #[] #[]] ++ #[l0, l1]) ++ Array.replicate (Proofs.Tryz.f259.ntmps - (#[Value.func (.yield L) #[] #[]] ++ #[l0, l1]).size) undef).getD 2 undef = l1 := by
          rw [Array.getD_eq_getD_getElem?, Array.getElem?_append_left (by simp)]; rfl
        rw [e]
        exact v2
      · have : getT (y0 x L).tmps (t + 3) = .top := by
          show getT (tops 28) t = .top
          exact tops_at 28 t
        rw [this]
        exact .top _
  have hc : 1 ≤ (y0 x L).ctr := by
    have h1 := fq5c x
    have h5 : (q5 x).ctr = (y0 x L).ctr := rfl
    omega
  refine wpIn_seq (evt_loc (evx (fy1 x L)) hs0 none m ?_)
  intro a1 w1 G1 Z1 hs1 t1
  have hR1 := Rnd.step (h := (y0 x L).heap) hR t1 fun n hn => Nat.le_trans hc hn
  have hc1 := Nat.le_trans hc (ctr_mono (evx (fy1 x L)))
  refine wpIn_block (wpIn_loop_rounds 2 ?_)
  rw [roundsIn_succ]
  refine wpIn_seq (evt_loc (evx (fy2 x L)) hs1 none m ?_)
  intro a2 w2 G2 Z2 hs2 t2
  have hR2 := hR1.step t2 fun n hn => Nat.le_trans hc1 hn
  have hc2 := Nat.le_trans hc1 (ctr_mono (evx (fy2 x L)))
  refine wpIn_seq (wpIn_block (wpIn_seq (evt_loc (evx (fy3 x L)) hs2 none m ?_)))
  intro a3 w3 G3 Z3 hs3 t3
  have hR3 := hR2.step t3 fun n hn => Nat.le_trans hc2 hn
  have hc3 := Nat.le_trans hc2 (ctr_mono (evx (fy3 x L)))
  refine wpIn_seq (wpIn_region_list ?_)
  rw [r4_list]
  refine wpListIn_app _ _ _ ?_
  obtain ⟨s', hk, hle, hw⟩ := @evOps_ok St cfgC cfgC_ok (callIn cfgC 40) (callIn_ok cfgC_ok cfgC_lp 40) 40 r4.toArray (y3 x L).ctr some (y4 x L) (r4.take 10) 0 (y3' x L) (fy4' x L) (y3'_bd x L)
  have hk' : s' = y4 x L := Option.some.inj hk
  subst hk'
  have hc4 : 1 ≤ (y4 x L).ctr := Nat.le_trans hc3 (y34 x L)
  have hs3' : SRel [] (y3' x L) a3 w3 G3 Z3 := ⟨hs3.tr, hs3.hr, fun n hn => hs3.fr n (by have := y3'_ctr x L; omega), hs3.df⟩
  refine hw a3 w3 G3 Z3 hs3' (fun n h1 h2 => hs3.fr n (by omega)) none m _ ?_
  intro a4 w4 G4 Z4 hs4 t4
  have hR4 := Rnd.step (h := (y3' x L).heap) hR3 t4 fun n hn => Nat.le_trans hc3 hn
  show wpListIn _ _ _ _ _ [o10, o11] a4 w4
  simp only [wpListIn, Region.wanted, o10_gd, o11_gd, if_true]
  refine round_ok x hR4 hs4 hst hpn htm hps has hbd ?_
  intro w5 G5 Z5 hR5 hs5
  have h29 : (a4.put (some 29) (.bool true)).eval (.tmp 29) = .bool true := by
    have hl := hs4.tr.len
    rw [fy4l] at hl
    have h29 : 29 < a4.tmps.size := by omega
    simp [Act.eval, Act.put, h29]
  refine o11_does h29 none m _ _ ?_
  rintro u w' ⟨rfl, rfl⟩
  rw [o11_dst]
  have hs6 : SRel [] (y6 x L) ((a4.put (some 29) (.bool true)).put (some 30) (.bool false)) w' G5 Z5 := ⟨hs5.tr.set (.bool false) 30, hs5.hr, hs5.fr, (put_defers _ _ _).trans hs5.df⟩
  have hc6 : 1 ≤ (y6 x L).ctr := by
    have e1 : (y6 x L).ctr = (b2 x L).ctr := rfl
    have e2 := ctr_mono (evx (fb1 x L))
    have e3 := ctr_mono (evx (fb2 x L))
    have e4 : (b0 x L).ctr = (y4 x L).ctr := rfl
    omega
  refine evt_loc (evx (fy7 x L)) hs6 none m ?_
  intro a7 w7 G7 Z7 hs7 t7
  have hR7 := Rnd.step (h := (y6 x L).heap) hR5 t7 fun n hn => Nat.le_trans hc6 hn
  have hc7 := Nat.le_trans hc6 (ctr_mono (evx (fy7 x L)))
  refine evt_loc (evx (fy8 x L)) hs7 none m ?_
  intro a8 w8 G8 Z8 hs8 t8
  have hR8 := hR7.step t8 fun n hn => Nat.le_trans hc7 hn
  have hc8 := Nat.le_trans hc7 (ctr_mono (evx (fy8 x L)))
  show Code.roundsIn _ _ _ _ _ 1 a8 w8
  rw [roundsIn_succ]
  refine wpIn_seq (evt_loc (evx (fy9 x L)) hs8 none m ?_)
  intro a9 w9 G9 Z9 hs9 t9
  have hR9 := hR8.step t9 fun n hn => Nat.le_trans hc8 hn
  have fin : bodyPost cfgC.P Proofs.Tryz.f259 R .normal a9 w9 := ⟨hs9.df, .tuple #[], by simp [results, rs259], hK _ w9 G9 Z9 hR9 hs9.fr⟩
  simp only [exOf, Exit.then, Exit.inBlock, if_true]
  exact fin
end Go.Eng

set_option linter.unusedVariables false
set_option linter.unusedSimpArgs false
namespace Go.Eng
open Go.RowKit
attribute [local irreducible] q1 q2 q3 q4 q5 y1 y2 y3 y4 b1 b2 y7 y8 y9 z1 z2 r4 o10 o11 c223 c259 nav e4 evG evX evOps cfgC callIn

set_option maxHeartbeats 2000000 in
theorem split_calls (x : SpIn) {us : Array Value} {w : World} {G : Gh} {Z : Nat → Prop} (ha : AR w G Z [.agg (spC x)] us) (hr : HR w G Z (spH x)) (hG : ∀ n, 1 ≤ n → G n = none) :
    Calls cfgC.P 223 us w fun e w' => ∃ u G' Z' h', e = .returned u ∧ SR (1 ≤ ·) w G Z (spH x) w' G' Z' h' ∧ hget h' 4865 = some (.row (.st .Packet) [x.p]) ∧ VR w' G' Z' (.tup [.own 4865 (.st .Packet) 0 1 true, .int .i64 0]) u := by
  refine (callsW (ro := none) (n := 0)).1 (callsIn_of_wp_marks f223_at body223 trivial ?_)
  have hs0 : SRel [] (q0 x) { tmps := us ++ Array.replicate (Proofs.Tryz.f223.ntmps - us.size) undef, defers := [] } w G Z := by
    refine ⟨⟨?_, ?_⟩, hr, hG, rfl⟩
    · have := ha.1
      simp only [List.length_cons, List.length_nil] at this
      simp [q0, tops, nt223, ← this]
    · intro t
      show VR w G Z (getT ([.agg (spC x)] ++ tops 49) t) _
      rw [getT_append, Array.getD_eq_getD_getElem?, Array.getElem?_append, ← ha.1]
      split
      · rename_i hlt
        have := ha.2 t hlt
        rwa [Array.getD_eq_getD_getElem?] at this
      · rw [tops_at]; exact .top _
  have c0 : 1 ≤ (q0 x).ctr := Nat.le_refl 1
  have c1 := Nat.le_trans c0 (ctr_mono (evx (fq1 x)))
  have c2 := Nat.le_trans c1 (ctr_mono (evx (fq2 x)))
  have c3 := Nat.le_trans c2 (ctr_mono (evx (fq3 x)))
  have c4 := Nat.le_trans c3 (ctr_mono (evx (fq4 x)))
  have c5 := Nat.le_trans c4 (ctr_mono (evx (fq5 x)))
  have tr1 : ∀ {w1 w2 : World} {G1 G2 : Gh} {Z1 Z2 : Nat → Prop} {h1 h2 : AH} {c : Nat}, 1 ≤ c → SR (1 ≤ ·) w G Z (spH x) w1 G1 Z1 h1 → SR (c ≤ ·) w1 G1 Z1 h1 w2 G2 Z2 h2 → SR (1 ≤ ·) w G Z (spH x) w2 G2 Z2 h2 :=
    fun hc s t => (s.trans t).weak fun n hn => hn.elim (fun h => h) fun h => Nat.le_trans hc h
  refine wpIn_seq (evt_loc (evx (fq1 x)) hs0 none 0 ?_)
  intro a1 w1 G1 Z1 hs1 t1
  have s1 : SR (1 ≤ ·) w G Z (spH x) w1 G1 Z1 (q1 x).heap := tr1 c0 (.refl hr) t1
  refine wpIn_seq (evt_loc (evx (fq2 x)) hs1 none 0 ?_)
  intro a2 w2 G2 Z2 hs2 t2
  have s2 := tr1 c1 s1 t2
  refine wpIn_seq (evt_loc (evx (fq3 x)) hs2 none 0 ?_)
  intro a3 w3 G3 Z3 hs3 t3
  have s3 := tr1 c2 s2 t3
  refine wpIn_seq (evt_loc (evx (fq4 x)) hs3 none 0 ?_)
  intro a4 w4 G4 Z4 hs4 t4
  have s4 := tr1 c3 s3 t4
  refine wpIn_seq (wpIn_seq (evt_loc (evx (fq5 x)) hs4 none 0 ?_))
  intro a5 w5 G5 Z5 hs5 t5
  have s5 := tr1 c4 s4 t5
  refine wpIn_block (wpIn_rangeFunc ?_)
  intro fn hfn
  -- the function that is ranged over
  obtain ⟨lb, hlb, hl2, v1, v2⟩ : ∃ lb, a5.eval (.tmp 20) = .func (.func 259) #[] lb ∧ lb.size = 2 ∧ VR w5 G5 Z5 (.ptr 1153 0) (lb.getD 0 undef) ∧ VR w5 G5 Z5 (.ptr 1217 0) (lb.getD 1 undef) := by
    have := ev1_ok hs5.tr (.tmp 20)
    rw [show ev1 (q5 x).tmps (.tmp 20) = .fn 259 [.ptr 1153 0, .ptr 1217 0] from fq5t x] at this
    obtain ⟨u, hu⟩ : ∃ u, u = a5.eval (.tmp 20) := ⟨_, rfl⟩
    rw [← hu] at this ⊢
    cases this with
    | fn _ _ vs h1 h2 => exact ⟨vs, rfl, h1.symm, h2 0 (by simp), h2 1 (by simp)⟩
  obtain ⟨r, hr'⟩ : ∃ r : Loop, r = { state := .ready, pending := none, fn, tmps := a5.tmps, params := #[21], assign := nav [1, 1, 1, 1, 0, 1, 0, 0] c223, body := nav [1, 1, 1, 1, 0, 1, 0, 1] c223, defers := w5.heap.size } := ⟨_, rfl⟩
  have hl1 : ((w5.alloc (.deferred (some []))).alloc (.loop r)).heap[w5.heap.size + 1]? = some (.loop r) := by
    have := World.alloc_heap_new (w5.alloc (.deferred (some []))) (.loop r)
    rwa [World.size_alloc] at this
  have hk1 : ((w5.alloc (.deferred (some []))).alloc (.loop r)).heap[w5.heap.size]? = some (.deferred (some [])) :=
    (Below.heap_alloc _ _ _ (by simp)).trans (World.alloc_heap_new w5 _)
  have hex : Ext (fun _ _ => False) w5 ((w5.alloc (.deferred (some []))).alloc (.loop r)) := two_alloc
  obtain ⟨W, hW⟩ : ∃ W, W = (w5.alloc (.deferred (some []))).alloc (.loop r) := ⟨_, rfl⟩
  rw [← hW] at hl1 hk1 hex
  have hmono : ∀ {y : AV} {v : Value}, VR w5 G5 Z5 y v → VR W G5 Z5 y v := fun h => h.mono hex (fun _ _ _ h => h) (fun _ _ h => h) fun _ h => h
  have hhr : HR W G5 Z5 (q5 x).heap := by
    refine ⟨fun nm bl hh => ?_, hs5.hr.sep, hs5.hr.zsep, fun b hb => Nat.lt_of_lt_of_le (hs5.hr.zlt b hb) hex.size⟩
    obtain ⟨ni, p1, p2⟩ := hs5.hr.blk nm bl hh
    exact ⟨ni, p1, p2.mono hex (fun _ _ _ h => h) (fun _ _ h => h) (fun _ h => h) fun _ _ _ _ h => h⟩
  have hsrW : SR (1 ≤ ·) w G Z (spH x) W G5 Z5 (q5 x).heap :=
    { s5 with ext := s5.ext.trans hex fun _ _ _ h => h.elim, hr := hhr }
  have hasd : ∀ X, w5.heap.size ≤ X → aside G5 Z5 (q5 x).heap X := by
    refine fun X hX => ⟨fun nm bl ni b o h1 h2 h3 e => ?_, fun hz => ?_⟩
    · obtain ⟨ni', p1, p2⟩ := hs5.hr.blk nm bl h1
      rw [h2] at p1; cases p1
      have := p2.lt h3
      omega
    · have := hs5.hr.zlt X hz; omega
  have hR : Rnd w G Z (spH x) (q5 x).tmps a5.tmps (w5.heap.size + 1) w5.heap.size r (q5 x).heap W G5 Z5 :=
    ⟨hsrW, ⟨hs5.tr.len, fun t => hmono (hs5.tr.at_ t)⟩, hl1, hk1, hasd _ (by omega), hasd _ (Nat.le_refl _), by have := s5.ext.size; omega⟩
  refine ⟨w5.heap.size + 1, [{ target := .collected w5.heap.size, args := #[] }], W, { target := .fn (.func 259) lb, args := #[.func (.yield (w5.heap.size + 1)) #[] #[]] }, W, 259,
    #[.func (.yield (w5.heap.size + 1)) #[] #[]] ++ lb, W, ?_, ?_, fun _ _ => trivial, ?_, fun h => (by cases h), ?_⟩
  · rw [hW, hr']; exact run_enterLoop_outer _ _ _ _ _
  · simp only [resolve, hlb]
    simp [Deferred.ofValue]
    rfl
  · have := enters_of f259_at (cfgC_ok.names 259 _ f259_at) (by rw [body259]; rfl)
    simp only [invoke]
    exact this _ _
  · refine iter_ok x hR hs5.fr (by rw [hr']) (by rw [hr']) (by rw [hr']) (by rw [hr']) (by rw [hr']) (by rw [hr']) hl2 (hmono v1) (hmono v2) ?_
    intro v w6 G6 Z6 hR6 hfr6
    obtain ⟨re, hre⟩ : ∃ re : Loop, re = { r with state := .exhausted } := ⟨_, rfl⟩
    have hel := run_endLoop (P := cfgC.P) hR6.lo (by rw [hr']; simp)
    rw [← hre, show r.pending = none by rw [hr']] at hel
    refine ⟨none, _, hel, ?_⟩
    simp only [Exit.inBlock]
    have hR7 := hR6.put re
    have hz0 : SRel [{ target := .collected w5.heap.size, args := #[] }] (z0 x (w5.heap.size + 1)) { a5 with defers := [{ target := .collected w5.heap.size, args := #[] }] ++ a5.defers } (w6.putObj (w5.heap.size + 1) (.loop re)) G6 Z6 :=
      ⟨hR7.t5, hR7.sr.hr, hfr6, by simp [hs5.df]⟩
    have cz0 : 1 ≤ (z0 x (w5.heap.size + 1)).ctr := by
      have e1 : (z0 x (w5.heap.size + 1)).ctr = (y9 x (w5.heap.size + 1)).ctr := rfl
      have e2 := ctr_mono (evx (fy9 x (w5.heap.size + 1)))
      have e3 := ctr_mono (evx (fy8 x (w5.heap.size + 1)))
      have e4 := ctr_mono (evx (fy7 x (w5.heap.size + 1)))
      have e5 : (y6 x (w5.heap.size + 1)).ctr = (b2 x (w5.heap.size + 1)).ctr := rfl
      have e6 := ctr_mono (evx (fb2 x (w5.heap.size + 1)))
      have e7 := ctr_mono (evx (fb1 x (w5.heap.size + 1)))
      have e8 : (b0 x (w5.heap.size + 1)).ctr = (y4 x (w5.heap.size + 1)).ctr := rfl
      have e9 := y34 x (w5.heap.size + 1)
      have f1 := ctr_mono (evx (fy3 x (w5.heap.size + 1)))
      have f2 := ctr_mono (evx (fy2 x (w5.heap.size + 1)))
      have f3 := ctr_mono (evx (fy1 x (w5.heap.size + 1)))
      have f4 : (y0 x (w5.heap.size + 1)).ctr = (q5 x).ctr := rfl
      omega
    have cz1 := Nat.le_trans cz0 (ctr_mono (evx (fz1 x (w5.heap.size + 1))))
    refine wpIn_seq (evt_loc (evx (fz1 x _)) hz0 none 0 ?_)
    intro a8 w8 G8 Z8 hs8 t8
    have hR8 := Rnd.step (h := (z0 x (w5.heap.size + 1)).heap) hR7 t8 fun n hn => Nat.le_trans cz0 hn
    refine wpIn_seq (evt_loc (evx (fz2 x _)) hs8 none 0 ?_)
    intro a9 w9 G9 Z9 hs9 t9
    have hR9 := hR8.step t9 fun n hn => Nat.le_trans cz1 hn
    refine wpIn_ret ?_
    show LeavesInM _ _ _ _ _ _ _ _ _
    rw [hs9.df]
    have hnk : noCells w9 w5.heap.size := ⟨_, hR9.de, fun _ _ _ e => by cases e⟩
    have hok : ∀ cs e fr, Obj.deferred none ≠ .cells cs e fr := fun _ _ _ e => by cases e
    refine ⟨by simp, .inl ⟨w5.heap.size, _, rfl, run_takeDeferred hR9.de, ?_⟩⟩
    have hsf := put_rel (o := .deferred none) hnk hok hR9.ak hs9
    obtain ⟨u, hu, hv⟩ := resV_ok (g := cfgC) hsf (fn := Proofs.Tryz.f223) (fzr x _)
    exact ⟨u, hu, u, G9, Z9, _, rfl, put_sr hnk hok hR9.ak hR9.le.2.1 hR9.sr, fzh x _, hv⟩
end Go.Eng

set_option linter.unusedVariables false
set_option linter.unusedSimpArgs false
namespace Go.Eng
open Go.RowKit

section
variable {w : World} {G : Gh} {Z : Nat → Prop} {h : AH}
def DL (w : World) (G : Gh) (Z : Nat → Prop) : (c : Cd) → c.T → Value → Prop
  | .sl d, x, u => SC w G Z true d x u
  | .st _, _, _ => False
  | .u8, x, u => VR w G Z (encLeaf .u8 x) u
  | .u16, x, u => VR w G Z (encLeaf .u16 x) u
  | .u32, x, u => VR w G Z (encLeaf .u32 x) u
  | .u64, x, u => VR w G Z (encLeaf .u64 x) u
  | .i64, x, u => VR w G Z (encLeaf .i64 x) u
  | .i32, x, u => VR w G Z (encLeaf .i32 x) u
  | .bool, x, u => VR w G Z (encLeaf .bool x) u
  | .str, x, u => VR w G Z (encLeaf .str x) u
def DH (w : World) (G : Gh) (Z : Nat → Prop) : (cs : List Cd) → HL cs → (Nat → Value) → Prop
  | [], _, _ => True
  | c :: cs, (x, r), us => DL w G Z c x (us 0) ∧ DH w G Z cs r fun j => us (j + 1)

theorem decLeaf0_true {c : Cd} {v : AV} {u : Value} {x : c.T} (hd : decLeaf0 h true c v = some x) (hv : VR w G Z v u) (hr : HR w G Z h) : DL w G Z c x u := by
  cases c with
  | sl d =>
    simp only [decLeaf0] at hd
    exact decSl0_ok hd hv hr
  | st s => cases hd
  | u8 => exact decLeaf0_ok (h := h) (c := .u8) hd hv hr
  | u16 => exact decLeaf0_ok (h := h) (c := .u16) hd hv hr
  | u32 => exact decLeaf0_ok (h := h) (c := .u32) hd hv hr
  | u64 => exact decLeaf0_ok (h := h) (c := .u64) hd hv hr
  | i64 => exact decLeaf0_ok (h := h) (c := .i64) hd hv hr
  | i32 => exact decLeaf0_ok (h := h) (c := .i32) hd hv hr
  | bool => exact decLeaf0_ok (h := h) (c := .bool) hd hv hr
  | str => exact decLeaf0_ok (h := h) (c := .str) hd hv hr
theorem decH0_true (hr : HR w G Z h) : ∀ (cs : List Cd) (vs : List AV) (us : Nat → Value) (r : HL cs), decH0 h true cs vs = some r → (∀ j, j < vs.length → VR w G Z (getT vs j) (us j)) → vs.length = cs.length ∧ DH w G Z cs r us
  | [], [], us, r, hd, hv => ⟨rfl, trivial⟩
  | [], _ :: _, us, r, hd, hv => by cases hd
  | _ :: _, [], us, r, hd, hv => by cases hd
  | c :: cs, v :: vs, us, r, hd, hv => by
    simp only [decH0] at hd
    split at hd
    · rename_i x hx
      split at hd
      · rename_i r' hr'
        cases hd
        obtain ⟨h1, h2⟩ := decH0_true hr cs vs (fun j => us (j + 1)) r' hr' fun j hj => hv (j + 1) (by simpa using hj)
        exact ⟨by simp [h1], decLeaf0_true hx (hv 0 (by simp)) hr, h2⟩
      · cases hd
    · cases hd
end

/-! ### The spec of Split at eight bytes -/

def eight (p : PacketS) : Option SpIn := match p with
  | ⟨I, false, Off, T, Pr, Sr, Ds, [x0, x1, x2, x3, x4, x5, x6, x7]⟩ => match decide (Off = 0) with
    | true => some ⟨I, T, Pr, Sr, Ds, x0, x1, x2, x3, x4, x5, x6, x7⟩
    | false => none
  | _ => none
def splitSpec : Spec where
  X := SpIn
  dec _ h args := match args with
    | [.agg cs] => match dec0 h true (.st .Packet) cs with
      | some p => eight p
      | none => none
    | _ => none
  out x := .ok (.tup [.own 4865 (.st .Packet) 0 1 true, .int .i64 0], [(4865, .row (.st .Packet) [x.p])])

theorem eight_ok {p : PacketS} {x : SpIn} (h : eight p = some x) : p = x.p := by
  unfold eight at h
  split at h
  · split at h
    · rename_i hd
      have hd' := of_decide_eq_true hd
      subst hd'
      cases h
      rfl
    · cases h
  · cases h

theorem enters223 : Enters cfgC.P 223 := enters_of f223_at (cfgC_ok.names 223 _ f223_at) (by rw [body223]; rfl)

theorem split_ok : SpecOK cfgC.P 223 splitSpec := by
  refine ⟨enters223, ?_⟩
  intro _ args h x p hd hF us w G Z hnw hr ha _
  simp only [splitSpec] at hd hF
  obtain rfl : _ = p := hF
  split at hd
  case h_2 => cases hd
  case h_1 cs =>
  split at hd
  case h_2 => cases hd
  case h_1 p hp =>
  have hpx := eight_ok hd
  subst hpx
  obtain ⟨u, rfl⟩ : ∃ u, us = #[u] := by
    have := ha.1
    simp only [List.length_cons, List.length_nil] at this
    exact Array.size_eq_one_iff.1 this.symm
  have hv : VR w G Z (.agg cs) u := ha.2 0 (by simp)
  obtain ⟨vs, rfl, hlen, hvs, hone⟩ : ∃ vs, u = .agg vs ∧ cs.length = vs.size ∧ (∀ j, j < cs.length → VR w G Z (getT cs j) (vs.getD j undef)) ∧ (∀ j, j < cs.length → (vs.getD j undef).oneCell' = true) := by
    cases hv with
    | agg _ vs h1 h2 h3 => exact ⟨vs, rfl, h1, h2, h3⟩
  obtain ⟨r, hr', hrp⟩ : ∃ r, decH0 h true (lvs .Packet) cs = some r ∧ ofH .Packet r = x.p := by
    simp only [dec0] at hp
    split at hp
    · rename_i r hr'; exact ⟨r, hr', Option.some.inj hp⟩
    · cases hp
  obtain ⟨hl, hD⟩ := decH0_true hr _ _ (fun j => vs.getD j undef) r hr' hvs
  have hrr : r = toH .Packet x.p := by rw [← hrp, toH_ofH]
  subst hrr
  have hl14 : cs.length = 14 := hl
  simp only [lvs, toH, SpIn.p, DH, DL] at hD
  obtain ⟨e0, e1, e2, e3, e4, e5, e6, e7, e8, e9, e10, e11, e12, e13, -⟩ := hD
  obtain ⟨A, cap, g1, g2, g3⟩ := e13
  have hdl : x.d.length = 8 := rfl
  rcases g3 with g3 | ⟨b, o, vf, rfl, g4, -⟩
  · exact absurd g3 (by unfold SpIn.d; simp)
  have hb : b < w.heap.size := lt_of_cell (g4.cell 0 (by omega) 0 (by decide))
  let G0 : Gh := fun nm => if nm = 0 then some ⟨some (b, o), 8, .u8⟩ else none
  have hcell : ∀ j, j < 8 → w.cell? (ad b (o + j)) = some (vf j 0) := by
    intro j hj
    have := g4.cell j (by omega) 0 (by decide)
    have e : o + j * csz Cd.u8 + 0 = o + j := by simp [csz]
    rwa [e] at this
  have hbyte : ∀ j, j < 8 → VR w G0 Z (getT (spB x) j) (vf j 0) ∧ (vf j 0).oneCell' = true := by
    intro j hj
    have h1 := g4.vr j (by omega) 0 (by decide)
    refine ⟨?_, enc_one (by decide) h1⟩
    have h2 := flat_enc (c := .u8) (G' := G0) (Z' := Z) rfl h1
    rcases j with _ | _ | _ | _ | _ | _ | _ | _ | j
    · exact h2
    · exact h2
    · exact h2
    · exact h2
    · exact h2
    · exact h2
    · exact h2
    · exact h2
    · omega
  have hr0 : HR w G0 Z (spH x) := by
    refine ⟨?_, ?_, ?_, hr.zlt⟩
    · intro nm bl hh
      obtain ⟨rfl, rfl⟩ := hget1 hh
      exact ⟨_, rfl, b, o, fun j => vf j 0, rfl, rfl, ⟨fun j hj => hcell j hj, fun j hj => (hbyte j hj).2, fun j hj => (hbyte j hj).1⟩, hb⟩
    · intro n m bn bm ni mi b' o1 o2 h1 h2
      obtain ⟨rfl, rfl⟩ := hget1 h1
      cases h2
    · intro n bn ni b' o1 h1 h2
      obtain ⟨rfl, rfl⟩ := hget1 h1
      cases h2
  have hag : AR w G0 Z [.agg (spC x)] #[.agg vs] := by
    refine ⟨rfl, fun j hj => ?_⟩
    obtain rfl : j = 0 := by simpa using hj
    show VR w G0 Z (.agg (spC x)) (.agg vs)
    refine .agg _ vs (by rw [← hlen, hl14]; rfl) (fun j hj => ?_) (fun j hj => hone j (by rw [hl14]; exact hj))
    have hj' : j < 14 := hj
    rcases j with _ | _ | _ | _ | _ | _ | _ | _ | _ | _ | _ | _ | _ | _ | j
    · exact flat_leaf (c := .u16) rfl e0
    · exact flat_leaf (c := .bool) rfl e1
    · exact flat_leaf (c := .i64) rfl e2
    · exact flat_leaf (c := .u8) rfl e3
    · exact flat_leaf (c := .u8) rfl e4
    · exact flat_leaf (c := .u8) rfl e5
    · exact flat_leaf (c := .u8) rfl e6
    · exact flat_leaf (c := .u8) rfl e7
    · exact flat_leaf (c := .u8) rfl e8
    · exact flat_leaf (c := .u8) rfl e9
    · exact flat_leaf (c := .u8) rfl e10
    · exact flat_leaf (c := .u8) rfl e11
    · exact flat_leaf (c := .u8) rfl e12
    · have g1' : vs.getD 13 undef = .slice (some (ad b o)) 8 cap := g1
      show VR w G0 Z (.xown 0 .u8 0 8) (vs.getD 13 undef)
      rw [g1']
      have := VR.xown (w := w) (G := G0) (Z := Z) 0 .u8 0 8 ⟨some (b, o), 8, .u8⟩ b o cap rfl rfl g2
      simpa using this
    · omega
  have hnw0 : ∀ nm bl, hget (spH x) nm = some bl → wr bl = false := by
    intro nm bl hh
    obtain ⟨rfl, rfl⟩ := hget1 hh
    rfl
  refine (split_calls x hag hr0 fun n hn => if_neg (by omega)).mono ?_
  rintro e w' ⟨u, G', Z', h', rfl, s, hrow, hvr⟩
  have hi := s.iso hnw0 hvr
  have hsub : ∀ nm bl, hget [(4865, Blk.row (.st .Packet) [x.p])] nm = some bl → hget h' nm = some bl := by
    intro nm bl hh
    simp only [hget] at hh
    by_cases e : 4865 = nm
    · subst e
      simp only [beq_self, Option.some.injEq] at hh
      rw [← hh]; exact hrow
    · simp only [beq_ne e] at hh
      cases hh
  exact ⟨u, G', Z', rfl, hi.ext, hi.zm, hi.zn, fun nm bl ni b o h1 => hi.own nm bl ni b o (hsub nm bl h1), hi.hr.sub hsub, hi.vr⟩

def spec0 (f : FuncId) : Option Spec := match Nat.beq f 223 with
  | true => some splitSpec
  | false => specC f
noncomputable def cfg0 : Cfg := { cfgC with spec := spec0 }
theorem cfg0_ok : CfgOK cfg0 := cfgC_ok.withSpec fun f s h => by
  unfold spec0 at h
  split at h
  · rename_i e
    cases h
    rw [Nat.eq_of_beq_eq_true e]
    exact split_ok
  · exact cfgC_ok.spec f s h
end Go.Eng
