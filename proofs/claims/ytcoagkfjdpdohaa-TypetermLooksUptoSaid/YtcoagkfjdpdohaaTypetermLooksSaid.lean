/- TypetermLooks: the statement, from what its function answers on the abstract machine. -/
import Derived.Test.YtcoagkfjdpdohaaRows
import Derived.Test.YtcoagkfjdpdohaaSxI
import Derived.Test.YtcoagkfjdpdohaaTyLoLo
import Derived.WalkKit
import Derived.ProofKit
import Derived.OpenShut
import Derived.ShutString
import Derived.ChangeOld
import Derived.Below
import Derived.JoinedCond
namespace Go.Proofs.Ytcoagkfjdpdohaa.typetermLooks
open Go.ChangeShapes Go.WideShapes Go.ChangeAt Go.RowKit
open Go.ChangeMaps (open_string shut_string)
set_option linter.unusedVariables false
theorem own : ownKnob Try.prog.godebug = none := by kernel_rfl
theorem laidOut : laidOutB Try.prog = true := by kernel_rfl
theorem f0 {H : Type} (d : DataW H) : 1 ≤ Rows.uptoBulk d := by unfold Rows.uptoBulk; split <;> omega
theorem f1 {H : Type} (b : List UInt8) : b.length + 1 ≤ Rows.uptoBulk (DataW.lit (H := H) (.string b)) := by rw [Rows.uptoBulk]; exact Nat.le_refl _
theorem f2 {H : Type} (e r : List (DataW H)) : Rows.uptoBulkAll e + 1 ≤ Rows.uptoBulk (.slice e r) := by rw [Rows.uptoBulk]; omega
theorem f3 {H : Type} (p : List (DataW H)) : Rows.uptoBulkAll p + 1 ≤ Rows.uptoBulk (.agg p) := by rw [Rows.uptoBulk]; exact Nat.le_refl _
theorem contract (H : Type) (enc : TypeId × Value → H) (W : World) (base : Nat) (args : Array Value) (ds gs : List (DataW H)) (before : List MemPlace)
    (hval0 : ∀ (j : Nat) t v, Try.f8.params[j]? = some t → args[j]? = some v → Value.okWide Try.prog W .any base t v)
    (hW : DataW.Whole enc Try.prog Try.f8.params.toList Rows.typetermLooksSpec.vars false W args.toList ds gs before) (hk : Rows.uptoSmall H (ds ++ gs) = true) :
    Calls Try.prog 8 args W fun e W' => ∃ v, e = .returned v ∧ Rows.typetermLooksSpec.post enc Try.prog Try.f8 false true false false W args v W' := by
  have hval : ∀ (j : Nat) t v, Try.f8.params[j]? = some t → args[j]? = some v → Value.okWide Try.prog W .any base t v := hval0
  have hW' := hW
  obtain ⟨p, q, hA0, hV, rfl, hfz, hnd⟩ := hW
  have hA : DataW.TrodAll enc Try.prog W 0 (fun _ => true) true Try.f8.params.toList args.toList ds p := hA0
  rw [Try.params8] at hA hval
  obtain ⟨v0, vs0, d0, ds0, p0, q0, hargs, rfl, rfl, h0, r0⟩ := trodAll_cons hA
  obtain ⟨v1, vs1, d1, ds1, p1, q1, rfl, rfl, rfl, h1, r1⟩ := trodAll_cons r0
  obtain ⟨v2, vs2, d2, ds2, p2, q2, rfl, rfl, rfl, h2, r2⟩ := trodAll_cons r1
  obtain ⟨v3, vs3, d3, ds3, p3, q3, rfl, rfl, rfl, h3, r3⟩ := trodAll_cons r2
  obtain ⟨rfl, rfl, rfl⟩ := trodAll_nil r3
  obtain rfl : args = #[v0, v1, v2, v3] := by cases args; simp_all
  obtain ⟨rfl, rfl⟩ := trodVars_none hV
  have hb : Rows.uptoBulkAll [d0, d1, d2, d3] ≤ 1048576 := by have h := of_decide_eq_true hk; rw [List.append_nil] at h; exact h
  simp only [Rows.uptoBulkAll] at hb
  have k0 := h0
  have lt0 : ∀ x ∈ p0, x.block < W.heap.size := by obtain ⟨m, hm⟩ := k0; exact DataW.trod_lt m _ _ _ hm
  obtain ⟨cs0, td0, rd0, bb0⟩ := Sx.arg_in3 f0 f1 f2 f3 rfl (fun _ _ => rfl) (S := [27, 9, 25, 22, 3]) (by kernel_rfl) (by kernel_rfl) h0
  have b0 : Sx.bulkDs cs0 ≤ 1048576 := by omega
  obtain ⟨us0, rfl⟩ := Sx.okWide_agg Try.underlying27 (hval 0 27 v0 rfl rfl)
  have k1 := h1
  have lt1 : ∀ x ∈ p1, x.block < W.heap.size := by obtain ⟨m, hm⟩ := k1; exact DataW.trod_lt m _ _ _ hm
  obtain ⟨cs1, td1, rd1, bb1⟩ := Sx.arg_in3 f0 f1 f2 f3 rfl (fun _ _ => rfl) (S := [27, 9, 25, 22, 3]) (by kernel_rfl) (by kernel_rfl) h1
  have b1 : Sx.bulkDs cs1 ≤ 1048576 := by omega
  obtain ⟨us1, rfl⟩ := Sx.okWide_agg Try.underlying27 (hval 1 27 v1 rfl rfl)
  have k2 := h2
  have lt2 : ∀ x ∈ p2, x.block < W.heap.size := by obtain ⟨m, hm⟩ := k2; exact DataW.trod_lt m _ _ _ hm
  obtain ⟨cs2, td2, rd2, bb2⟩ := Sx.arg_in3 f0 f1 f2 f3 rfl (fun _ _ => rfl) (S := [27, 9, 25, 22, 3]) (by kernel_rfl) (by kernel_rfl) h2
  have b2 : Sx.bulkDs cs2 ≤ 1048576 := by omega
  obtain ⟨a2, rfl, rfl, rfl, w2⟩ := open_string Try.underlying9 (hval 2 9 v2 rfl rfl) h2
  obtain ⟨e2, rfl⟩ := Sx.RD.single rd2
  have k3 := h3
  have lt3 : ∀ x ∈ p3, x.block < W.heap.size := by obtain ⟨m, hm⟩ := k3; exact DataW.trod_lt m _ _ _ hm
  obtain ⟨cs3, td3, rd3, bb3⟩ := Sx.arg_in3 f0 f1 f2 f3 rfl (fun _ _ => rfl) (S := [27, 9, 25, 22, 3]) (by kernel_rfl) (by kernel_rfl) h3
  have b3 : Sx.bulkDs cs3 ≤ 1048576 := by omega
  obtain ⟨a3, len3, cap3, rfl⟩ := okWide_slice Try.underlying22 (hval 3 22 v3 rfl rfl)
  obtain ⟨e3, rfl⟩ := Sx.RD.single rd3
  clear hA0 hval0
  obtain ⟨N, M0, hrun0⟩ := Sx.looks_law cs0 td0 b0 cs1 td1 b1 e2 td2 b2 e3 td3 b3
  obtain ⟨G1, hG1, M', hrun⟩ := Sx.G_run (by simp only [Sx.vvs, Sx.TD.vva td0, Sx.TD.vva td1, Sx.TD.vv1 td2, Sx.TD.vv1 td3]) rfl hrun0
  refine (Sx.law_true hG1 hrun W (.cons (Sx.RD.relagg rd0) (.cons (Sx.RD.relagg rd1) (.cons (Sx.RD.rel1 rd2) (.cons (Sx.RD.rel1 rd3) (Sx.RelL.nil _)))))).mono fun e W' ⟨he, bel⟩ => ?_
  subst he
  exact ⟨_, rfl, _, _, _, [], _, [], hW', trodAll_mk1 (shut_bool Try.underlying4 _), (trodAll_cons_mk (Below.trod laidOut (by kernel_rfl) (of_decide_eq_true (by kernel_rfl)) k0 bel lt0) (trodAll_cons_mk (Below.trod laidOut (by kernel_rfl) (of_decide_eq_true (by kernel_rfl)) k1 bel lt1) (trodAll_cons_mk (Below.trod laidOut (by kernel_rfl) (of_decide_eq_true (by kernel_rfl)) k2 bel lt2) (trodAll_cons_mk (Below.trod laidOut (by kernel_rfl) (of_decide_eq_true (by kernel_rfl)) k3 bel lt3) trodAll_mk0)))), rfl, bel.frame _, fun h => by cases h⟩

set_option maxRecDepth 100000 in
theorem lifted (os : Os) (started : os.Started) (H : Type) (enc : TypeId × Value → H) (F : Stop.Interp) :
    ReturnsInHanded {} Try.checked os 8 .any ((Rows.OpenSpec.upto Rows.typetermLooksSpec).pre6 enc Try.prog Try.f8 Rows.typetermLooksUptoRow.domain false) (((Rows.OpenSpec.upto Rows.typetermLooksSpec).at F).post enc Try.prog Try.f8 false true false false) := by
  refine returnsInHanded_of_cond (C := Try.checked) (s := (Rows.OpenSpec.upto Rows.typetermLooksSpec)) (k := Rows.uptoSmall) rfl own started (by kernel_rfl) Try.func8
    (OpenSpec.witness (enc := enc) (C := Try.checked) (s := (Rows.OpenSpec.upto Rows.typetermLooksSpec)) (k := Rows.uptoSmall) rfl false ⟨#[], #[.agg #[.string ByteArray.empty, .slice none 0 0], .agg #[.string ByteArray.empty, .slice none 0 0], .string ByteArray.empty, .slice none 0 0], []⟩ 8 (by kernel_rfl) (by kernel_rfl) (by kernel_rfl)
      (x := ([.agg [.lit (.string []), .nil], .agg [.lit (.string []), .nil], .lit (.string []), .nil], [], [])) (by kernel_rfl) rfl (by kernel_rfl)) ?_
  intro W base args ds gs before hval hW _ hk _
  exact contract H enc W base args ds gs before hval hW hk

theorem proved : Rows.TypetermLooksUptoSaid :=
  OpenClaim.holds_of_cond 8 Try.f8 rfl rfl rfl rfl rfl rfl rfl ⟨rfl, rfl, rfl, rfl, rfl⟩ rfl rfl rfl rfl rfl (by kernel_rfl) Try.func8 (by kernel_rfl)
    (of_decide_eq_true (by kernel_rfl)) (by unfold Func.isWrapper; first | (rw [if_pos (by decide +kernel)]; kernel_rfl) | (rw [if_neg (by decide +kernel)]; exact ⟨rfl, rfl⟩))
    (fun os started H enc _ F => lifted os started H enc F)
#print axioms proved
end Go.Proofs.Ytcoagkfjdpdohaa.typetermLooks
