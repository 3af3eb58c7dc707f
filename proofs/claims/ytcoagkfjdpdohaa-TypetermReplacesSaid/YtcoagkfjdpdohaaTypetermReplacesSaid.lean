/- TypetermReplaces: the statement, from what its function answers on the abstract machine. -/
import Derived.Test.YtcoagkfjdpdohaaRows
import Derived.Test.YtcoagkfjdpdohaaSxI
import Derived.Test.YtcoagkfjdpdohaaTyReRe
import Derived.WalkKit
import Derived.ProofKit
import Derived.OpenShut
import Derived.ShutString
import Derived.ChangeOld
import Derived.Below
namespace Go.Proofs.Ytcoagkfjdpdohaa.typetermReplaces
open Go.ChangeShapes Go.WideShapes Go.ChangeAt Go.RowKit
open Go.ChangeMaps (open_string shut_string)
set_option linter.unusedVariables false
theorem own : ownKnob Try.prog.godebug = none := by kernel_rfl
theorem laidOut : laidOutB Try.prog = true := by kernel_rfl
set_option maxRecDepth 100000 in
theorem lifted (os : Os) (started : os.Started) (H : Type) (enc : TypeId × Value → H) :
    ReturnsInHanded {} Try.checked os 4 .any (Rows.typetermReplacesSpec.pre6 enc Try.prog Try.f4 Rows.typetermReplacesRow.domain false) (Rows.typetermReplacesSpec.post enc Try.prog Try.f4 false true false false) := by
  refine returnsInHanded_of_change (C := Try.checked) own started (by kernel_rfl) Try.func4
    (ChangeSpec.witness6 (enc := enc) (C := Try.checked) false ⟨#[], #[.agg #[.string ByteArray.empty, .slice none 0 0], .agg #[.string ByteArray.empty, .slice none 0 0], .slice none 0 0, .slice none 0 0, .slice none 0 0], []⟩ 8 (by kernel_rfl) (by kernel_rfl) (by kernel_rfl) (by kernel_rfl)) ?_
  intro W base args ds gs before hval0 hW hcnd _
  have hval : ∀ (j : Nat) t v, Try.f4.params[j]? = some t → args[j]? = some v → Value.okWide Try.prog W .any base t v := hval0
  have hW' := hW
  obtain ⟨p, q, hA0, hV, rfl, hfz, hnd⟩ := hW
  have hA : DataW.TrodAll enc Try.prog W 0 (fun _ => true) true Try.f4.params.toList args.toList ds p := hA0
  rw [Try.params4] at hA hval
  obtain ⟨v0, vs0, d0, ds0, p0, q0, hargs, rfl, rfl, h0, r0⟩ := trodAll_cons hA
  obtain ⟨v1, vs1, d1, ds1, p1, q1, rfl, rfl, rfl, h1, r1⟩ := trodAll_cons r0
  obtain ⟨v2, vs2, d2, ds2, p2, q2, rfl, rfl, rfl, h2, r2⟩ := trodAll_cons r1
  obtain ⟨v3, vs3, d3, ds3, p3, q3, rfl, rfl, rfl, h3, r3⟩ := trodAll_cons r2
  obtain ⟨v4, vs4, d4, ds4, p4, q4, rfl, rfl, rfl, h4, r4⟩ := trodAll_cons r3
  obtain ⟨rfl, rfl, rfl⟩ := trodAll_nil r4
  obtain rfl : args = #[v0, v1, v2, v3, v4] := by cases args; simp_all
  obtain ⟨rfl, rfl⟩ := trodVars_none hV
  have k0 := h0
  have lt0 : ∀ x ∈ p0, x.block < W.heap.size := by obtain ⟨m, hm⟩ := k0; exact DataW.trod_lt m _ _ _ hm
  obtain ⟨cs0, td0, rd0⟩ := Sx.arg_in2 (S := [27, 9, 25, 35, 22, 3]) (by kernel_rfl) (by kernel_rfl) h0
  obtain ⟨us0, rfl⟩ := Sx.okWide_agg Try.underlying27 (hval 0 27 v0 rfl rfl)
  have k1 := h1
  have lt1 : ∀ x ∈ p1, x.block < W.heap.size := by obtain ⟨m, hm⟩ := k1; exact DataW.trod_lt m _ _ _ hm
  obtain ⟨cs1, td1, rd1⟩ := Sx.arg_in2 (S := [27, 9, 25, 35, 22, 3]) (by kernel_rfl) (by kernel_rfl) h1
  obtain ⟨us1, rfl⟩ := Sx.okWide_agg Try.underlying27 (hval 1 27 v1 rfl rfl)
  have k2 := h2
  have lt2 : ∀ x ∈ p2, x.block < W.heap.size := by obtain ⟨m, hm⟩ := k2; exact DataW.trod_lt m _ _ _ hm
  obtain ⟨cs2, td2, rd2⟩ := Sx.arg_in2 (S := [27, 9, 25, 35, 22, 3]) (by kernel_rfl) (by kernel_rfl) h2
  obtain ⟨a2, len2, cap2, rfl⟩ := okWide_slice Try.underlying35 (hval 2 35 v2 rfl rfl)
  obtain ⟨e2, rfl⟩ := Sx.RD.single rd2
  have k3 := h3
  have lt3 : ∀ x ∈ p3, x.block < W.heap.size := by obtain ⟨m, hm⟩ := k3; exact DataW.trod_lt m _ _ _ hm
  obtain ⟨cs3, td3, rd3⟩ := Sx.arg_in2 (S := [27, 9, 25, 35, 22, 3]) (by kernel_rfl) (by kernel_rfl) h3
  obtain ⟨a3, len3, cap3, rfl⟩ := okWide_slice Try.underlying25 (hval 3 25 v3 rfl rfl)
  obtain ⟨e3, rfl⟩ := Sx.RD.single rd3
  have k4 := h4
  have lt4 : ∀ x ∈ p4, x.block < W.heap.size := by obtain ⟨m, hm⟩ := k4; exact DataW.trod_lt m _ _ _ hm
  obtain ⟨cs4, td4, rd4⟩ := Sx.arg_in2 (S := [27, 9, 25, 35, 22, 3]) (by kernel_rfl) (by kernel_rfl) h4
  obtain ⟨a4, len4, cap4, rfl⟩ := okWide_slice Try.underlying22 (hval 4 22 v4 rfl rfl)
  obtain ⟨e4, rfl⟩ := Sx.RD.single rd4
  clear hA0 hval0
  obtain ⟨N, M0, hrun0⟩ := Sx.replaces_law cs0 td0 cs1 td1 e2 td2 e3 td3 e4 td4
  obtain ⟨G1, hG1, M', hrun⟩ := Sx.G_run (by simp only [Sx.vvs, Sx.TD.vva td0, Sx.TD.vva td1, Sx.TD.vv1 td2, Sx.TD.vv1 td3, Sx.TD.vv1 td4]) rfl hrun0
  refine (Sx.law_true hG1 hrun W (.cons (Sx.RD.relagg rd0) (.cons (Sx.RD.relagg rd1) (.cons (Sx.RD.rel1 rd2) (.cons (Sx.RD.rel1 rd3) (.cons (Sx.RD.rel1 rd4) (Sx.RelL.nil _))))))).mono fun e W' ⟨he, bel⟩ => ?_
  subst he
  exact ⟨_, rfl, _, _, _, [], _, [], hW', trodAll_mk1 (shut_bool Try.underlying4 _), (trodAll_cons_mk (Below.trod laidOut (by kernel_rfl) (of_decide_eq_true (by kernel_rfl)) k0 bel lt0) (trodAll_cons_mk (Below.trod laidOut (by kernel_rfl) (of_decide_eq_true (by kernel_rfl)) k1 bel lt1) (trodAll_cons_mk (Below.trod laidOut (by kernel_rfl) (of_decide_eq_true (by kernel_rfl)) k2 bel lt2) (trodAll_cons_mk (Below.trod laidOut (by kernel_rfl) (of_decide_eq_true (by kernel_rfl)) k3 bel lt3) (trodAll_cons_mk (Below.trod laidOut (by kernel_rfl) (of_decide_eq_true (by kernel_rfl)) k4 bel lt4) trodAll_mk0))))), rfl, bel.frame _, fun h => by cases h⟩

theorem over : Rows.typetermReplacesRow.holds Try.pinned (OpenSpec.ofChange Rows.typetermReplacesSpec) :=
  OpenClaim.holds_of_wide 4 Try.f4 rfl rfl rfl rfl rfl rfl rfl ⟨rfl, rfl, rfl, rfl, rfl⟩ rfl rfl rfl rfl rfl (by kernel_rfl) Try.func4 (by kernel_rfl)
    (of_decide_eq_true (by kernel_rfl)) (by unfold Func.isWrapper; first | (rw [if_pos (by decide +kernel)]; kernel_rfl) | (rw [if_neg (by decide +kernel)]; exact ⟨rfl, rfl⟩))
    (fun os started H enc _ => lifted os started H enc)

theorem proved : Rows.TypetermReplacesSaid := over
#print axioms proved
end Go.Proofs.Ytcoagkfjdpdohaa.typetermReplaces
