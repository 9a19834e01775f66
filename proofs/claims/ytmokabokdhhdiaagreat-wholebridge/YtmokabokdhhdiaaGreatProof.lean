/- The statement WholeBridge holds of the program for every input: wholeBridge_holds. Conditions: none beyond the row's own. -/
import Derived.Test.YtmokabokdhhdiaaGreatEngL
set_option linter.unusedVariables false
set_option linter.unusedSimpArgs false
namespace Go.Proofs.YtmokabokdhhdiaaGreat
open Go.ChangeShapes Go.WideShapes Go.ChangeAt Go.RowKit Go.Eng

theorem ownKnob0 : ownKnob Tryz.prog.godebug = none := by kernel_rfl
theorem laidOut0 : laidOutB Tryz.prog = true := by kernel_rfl
theorem bridge_walk (a : Int) (ts : List Eng.TalkS) (hts : ∀ x ∈ ts, x.S.length < 140737488351233) (W : World) (Z : Nat → Prop) (hz : ∀ b, Z b → b < W.heap.size) (v : Value) (hv : Eng.VR W (fun _ => none) Z (.imm (.st .Talk) ts) v) :
    Calls Tryz.prog 3 #[.int .i64 a, v] W fun e W' => e = .returned (.bool true) ∧ Below W.heap.size W W' := by
  obtain ⟨h', ctr', _, _, hf⟩ := Eng.bridge_fun a ts hts
  have hr : Eng.HR W (fun _ => none) Z [] := ⟨fun nm bl hh => (by cases hh), fun n m bn bm ni mi b o o' hh => (by cases hh), fun n bn ni b o hh => (by cases hh), hz⟩
  have ha : Eng.AR W (fun _ => none) Z [.int .i64 a, .imm (.st .Talk) ts] #[.int .i64 a, v] := by
    refine ⟨rfl, fun j hj => ?_⟩
    have hj : j < 2 := hj
    rcases j with _ | _ | j
    · exact .int _ _ rfl
    · exact hv
    · omega
  refine (hf #[.int .i64 a, v] W (fun _ => none) Z ha hr fun _ _ => rfl).mono ?_
  rintro e W' ⟨u, G', Z', rfl, s, hu⟩
  cases hu
  refine ⟨rfl, s.ext.os, s.ext.tape, s.ext.output, s.ext.size, fun k hk => s.ext.blk k hk ?_⟩
  rintro j ⟨nm, bl, ni, o, h1, _⟩
  cases h1

set_option maxRecDepth 100000 in
theorem bridge_lifted (os : Os) (started : os.Started) (H : Type) (enc : TypeId × Value → H) :
    ReturnsInHanded {} Tryz.checked os 3 .any (Rows.wholeBridgeSpec.pre6 enc Tryz.prog Tryz.f3 Rows.wholeBridgeRow.domain false) (Rows.wholeBridgeSpec.post enc Tryz.prog Tryz.f3 false true false false) := by
  refine returnsInHanded_of_change_sized (C := Tryz.checked) ownKnob0 started (by kernel_rfl) Tryz.func3
    (ChangeSpec.witness6 (enc := enc) (C := Tryz.checked) false ⟨#[], #[.int .i64 0, .slice none 0 0], []⟩ 8 (by kernel_rfl) (by kernel_rfl) (by kernel_rfl) (by kernel_rfl)) ?_
  intro W base args ds gs before hval0 hW hcnd hsz0 _
  have hval : ∀ (j : Nat) t v, Tryz.f3.params[j]? = some t → args[j]? = some v → Value.okWide Tryz.prog W .any base t v := hval0
  have hsz : (DataW.weightsEach Tryz.prog (Tryz.f3.params.toList ++ Rows.wholeBridgeSpec.plain.varTypes Tryz.prog) (ds ++ gs)).all (· ≤ reachBytes) = true := hsz0
  have hW' := hW
  obtain ⟨p, q, hA0, hV, rfl, hfz, hnd⟩ := hW
  have hA : DataW.TrodAll enc Tryz.prog W 0 (fun _ => true) true Tryz.f3.params.toList args.toList ds p := hA0
  rw [Tryz.params3] at hA hval hsz
  obtain ⟨v0, v1, d0, d1, p0, p1, rfl, rfl, rfl, h0, h1⟩ := trodAll_two hA
  obtain ⟨rfl, rfl⟩ := trodVars_none hV
  obtain ⟨a, rfl, rfl, rfl, wa⟩ := open_int Tryz.underlying3 (hval 0 3 v0 rfl rfl) h0
  have hw1 : ∀ n ∈ d1.weights Tryz.prog 22, n ≤ reachBytes := fun n hn => by
    have := List.all_eq_true.1 hsz n (DataW.weights_mem_each (j := 1) (t := 22) (d := d1) rfl rfl n hn)
    simpa using this
  obtain ⟨ts, Z, hts, hz, hv⟩ := Eng.talks_open (hval 1 22 v1 rfl rfl) h1 hw1
  have hlt : ∀ x ∈ p1, x.block < W.heap.size := fun x hx => hW'.lt x (by simpa using hx)
  clear hA0 hval0 hsz0
  simp only [List.append_nil] at hW'
  refine (bridge_walk a ts hts W Z hz v1 hv).mono fun e W' ⟨he, hb⟩ => ?_
  subst he
  exact ⟨_, rfl, _, _, _, [], _, [], hW', trodAll_mk1 (shut_bool Tryz.underlying4 true), trodAll_mk2 (shut_int Tryz.underlying3 wa) (Below.trod laidOut0 (by kernel_rfl) (of_decide_eq_true (by kernel_rfl)) h1 hb hlt), rfl, hb.frame _, fun h => by cases h⟩

theorem wholeBridge_holds : Rows.WholeBridgeSaid :=
  OpenClaim.holds_of_wide 3 Tryz.f3 rfl rfl rfl rfl rfl rfl rfl ⟨rfl, rfl, rfl, rfl, rfl⟩ rfl rfl rfl rfl rfl (by kernel_rfl) Tryz.func3 (by kernel_rfl)
    (of_decide_eq_true (by kernel_rfl)) (by unfold Func.isWrapper; first | (rw [if_pos (by decide +kernel)]; kernel_rfl) | (rw [if_neg (by decide +kernel)]; exact ⟨rfl, rfl⟩))
    (fun os started H enc _ => bridge_lifted os started H enc)
end Go.Proofs.YtmokabokdhhdiaaGreat
