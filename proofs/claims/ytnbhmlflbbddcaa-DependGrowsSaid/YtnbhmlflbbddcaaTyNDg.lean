/- TYPES: Compare and Text. -/
import Derived.Test.YtnbhmlflbbddcaaTyLDg
namespace Go.Proofs.Ytnbhmlflbbddcaa.Sx
open Go
set_option maxRecDepth 1000000
set_option linter.unusedSimpArgs false
set_option linter.unusedVariables false

mutual
def Ty.textL : Ty → List UInt8
  | .mk n l => n.data.toList ++ (if l.isEmpty then [] else 91 :: (Lib.join (textLs l) [44, 32] ++ [93]))
def textLs : List Ty → List (List UInt8)
  | [] => []
  | t :: r => t.textL :: textLs r
end
def Ty.text (t : Ty) : ByteArray := ⟨t.textL.toArray⟩
theorem Ty.textL_eq (t : Ty) : t.textL = t.name.data.toList ++ (if t.args.isEmpty then [] else 91 :: (Lib.join (textLs t.args) [44, 32] ++ [93])) := by cases t; rw [Ty.textL]; rfl
theorem textLs_text : ∀ l : List Ty, (l.map Ty.text).map (·.data.toList) = textLs l
  | [] => rfl
  | t :: r => by rw [List.map_cons, List.map_cons, textLs, textLs_text r, Ty.text]
theorem joinTail_mem {x sep : List UInt8} : ∀ {r : List (List UInt8)}, x ∈ r → x.length ≤ (Lib.joinTail sep r).length
  | z :: r, h => by
    have e : Lib.joinTail sep (z :: r) = sep ++ z ++ Lib.joinTail sep r := by simp [Lib.joinTail]
    rw [e, List.length_append, List.length_append]
    rcases List.mem_cons.1 h with rfl | h
    · omega
    · have := joinTail_mem (sep := sep) h
      omega
theorem join_mem {x : List UInt8} {sep : List UInt8} {l : List (List UInt8)} (h : x ∈ l) : x.length ≤ (Lib.join l sep).length := by
  cases l with
  | nil => cases h
  | cons y r =>
    rw [Lib.join_cons, List.length_append]
    rcases List.mem_cons.1 h with rfl | h
    · omega
    · have := joinTail_mem (sep := sep) h
      omega
theorem text_mem {t : Ty} : ∀ {l : List Ty}, t ∈ l → t.textL ∈ textLs l
  | u :: r, h => by
    rw [textLs]
    rcases List.mem_cons.1 h with rfl | h
    · simp
    · simp [text_mem h]

theorem mapM_strD : ∀ xs : List ByteArray, (encS xs).mapM strD = some xs
  | [] => rfl
  | x :: xs => by
    have h := mapM_strD xs
    simp only [encS] at h
    rw [encS, List.map_cons, List.mapM_cons, h]; rfl

theorem nrms_encS : ∀ xs : List ByteArray, nrms (encS xs) = encS xs
  | [] => rfl
  | x :: xs => by
    have h := nrms_encS xs
    simp only [encS] at h
    rw [encS, List.map_cons, nrms, h]; rfl

theorem rn_addS {e : EK} {a b : ByteArray} {R : Type} {r : R → Prop} {k : AV → Option R} (h : a.data.size + b.data.size ≤ 9223372036854775807) (hk : Wp (k (.str ⟨a.data ++ b.data⟩)) r) : Wp (opt (binA .add e (.str a) (.str b)) k) r := by
  refine rn_opt (v := .str ⟨a.data ++ b.data⟩) ?_ hk
  simp only [binA, sbin]
  rw [if_neg (by omega)]
  rfl
section
variable {call : CallT} (hc : Lim G call)
include hc

theorem join_cc (xs : List ByteArray) (sep : ByteArray) (h1 : xs.length ≤ 140737488355328) (h2 : (Lib.join (xs.map (·.data.toList)) sep.data.toList).length ≤ 140737488355328) : CC call 28 [avS xs, .str sep] (.str ⟨(Lib.join (xs.map (·.data.toList)) sep.data.toList).toArray⟩) := by
  intro lo M
  rw [hc.prim rfl]
  have e : joinQ [avS xs, .str sep] = some (.string ⟨(Lib.join (xs.map (·.data.toList)) sep.data.toList).toArray⟩) := by
    simp only [joinQ, mapM_strD]
    rw [if_pos ⟨trivial, h1, h2⟩]
  have ev : vvs [avS xs, .str sep] = [avS xs, .str sep] := by
    show [AV.d (.sl (nrms (encS xs)) xs.length), AV.str sep] = _
    rw [nrms_encS]
  show Wp (((joinQ (vvs [avS xs, .str sep])).map fun v => AV.d (.v v)).map (·, M)) _
  rw [ev, e]
  exact rn_ans

theorem text_cc : ∀ (n : Nat) (t : Ty), t.size ≤ n → n ≤ 1000000000000 → t.textL.length ≤ 1000000000000 → CC call 21 [avT t] (.str t.text) := by
  intro n
  induction n with
  | zero => intro t h; have := t.size_pos; omega
  | succ n ih =>
    intro t h hn hL lo M
    obtain ⟨nl, hG, hN⟩ : ∃ nl, G.nl = nl ∧ nl = 18446744073709551616 := ⟨_, rfl, rfl⟩
    rw [q21 hc, hG]
    clear hG
    have hs := t.size_eq
    have hlen := sizes_len t.args
    have hE := t.textL_eq
    cases hemp : t.args.isEmpty with
    | true =>
      have h0 : t.args.length = 0 := by simpa using hemp
      unfold s21
      repeat (first | (with_reducible (first | refine rn_aggT ?_ | refine rn_noT ?_ | refine rn_nameT ?_ | refine rn_argsT ?_ | refine rn_lenT ?_ | refine rn_upa ?_ | refine rn_if_t ?_)) | ((with_reducible refine rn_eql_t ?_ ?_); focus omega))
      refine rn_ans' ?_
      rw [hemp, if_pos rfl, List.append_nil] at hE
      rw [Ty.text, hE]
    | false =>
      have h0 : 1 ≤ t.args.length := by
        cases hh : t.args with
        | nil => rw [hh] at hemp; cases hemp
        | cons x r => simp
      rw [hemp, if_neg (by simp)] at hE
      have hLn := congrArg List.length hE
      simp only [List.length_append, List.length_cons, List.length_nil] at hLn
      have loop : ∀ (s d : List Ty) (i f : Nat) (M : MM), d ++ s = t.args → d.length = i → s.length < f →
          Wp (b21_6 call nl lo f (avT t) (avS (d.map Ty.text)) (avTs t.args) (.i t.args.length) (.i i) M) (Ans (.str t.text) M) := by
        intro s
        induction s with
        | nil =>
          intro d i f M hd hi hf
          obtain ⟨f, rfl⟩ : ∃ k, f = k + 1 := ⟨f - 1, by simp only [List.length_nil] at hf; omega⟩
          rw [List.append_nil] at hd
          subst hd
          have hj := join_cc hc (t.args.map Ty.text) ⟨⟨[44, 32]⟩⟩ (by rw [List.length_map]; omega) (by rw [textLs_text]; show (Lib.join (textLs t.args) [44, 32]).length ≤ _; omega)
          rw [textLs_text] at hj
          have hcl : ∀ y ∈ [avS (t.args.map Ty.text), .str ⟨⟨[44, 32]⟩⟩], Cl y := by simp [ClS, ClStr]
          have hn1 : t.name.data.size = t.name.data.toList.length := by simp
          unfold b21_6
          repeat (first | (with_reducible (first | refine rn_noT ?_ | refine rn_nameT ?_ | refine rn_pcc hj (fz_s _) hcl ?_)) | ((with_reducible refine rn_addS ?_ ?_); focus (simp only [Array.size_append, List.size_toArray, List.length_cons, List.length_nil]; omega)) | (with_reducible (first | refine rn_bumpa ?_ | refine rn_if_f ?_)) | ((with_reducible refine rn_lss_f ?_ ?_); focus omega))
          refine rn_ans' ?_
          rw [Ty.text, hE]
          congr 3
          apply Array.ext'
          simp
        | cons x s ihs =>
          intro d i f M hd hi hf
          simp only [List.length_cons] at hf
          obtain ⟨f, rfl⟩ : ∃ k, f = k + 1 := ⟨f - 1, by omega⟩
          have hdrop : t.args.drop i = x :: s := by rw [← hd, ← hi, List.drop_left]
          obtain ⟨hl, hd'⟩ := drop_cons hdrop
          have hxm : x ∈ t.args := by rw [← hd]; simp
          have hx : x.size ≤ n := by have := size_mem hxm; omega
          have hxL : x.textL.length ≤ 1000000000000 := by
            have := join_mem (sep := [44, 32]) (text_mem hxm)
            omega
          have hdl : d.length ≤ t.args.length := by rw [← hd]; simp
          have hbb : ((d.map Ty.text).length + 1) * 16 ≤ 140737488355328 ∧ (d.map Ty.text).length + 1 ≤ 9223372036854775807 := by rw [List.length_map]; omega
          unfold b21_6
          repeat (first | (with_reducible (first | refine rn_ldT ?_ | refine rn_setT ?_ | refine rn_allT ?_ | refine rn_ixD hdrop ?_ | refine rn_pcc (ih x hx (by omega) hxL) (fz_s _) (ClT1 _) ?_ | refine rn_wslS1 ?_ | refine rn_appS hbb ?_ | refine rn_upa ?_ | refine rn_if_t ?_)) | ((with_reducible refine rn_add64 ?_ ?_); focus omega) | ((with_reducible refine rn_lss_t ?_ ?_); focus omega))
          rw [show d.map Ty.text ++ [x.text] = (d ++ [x]).map Ty.text by simp]
          exact ihs (d ++ [x]) (i + 1) f _ (by rw [List.append_assoc]; exact hd) (by simp [hi]) (by omega)
      unfold s21
      repeat (first | (with_reducible (first | refine rn_aggT ?_ | refine rn_noT ?_ | refine rn_argsT ?_ | refine rn_lenT ?_ | refine rn_upa ?_ | refine rn_if_f ?_)) | ((with_reducible refine rn_eql_f ?_ ?_); focus omega))
      exact loop t.args [] 0 nl _ rfl rfl (by omega)
end
end Go.Proofs.Ytnbhmlflbbddcaa.Sx
