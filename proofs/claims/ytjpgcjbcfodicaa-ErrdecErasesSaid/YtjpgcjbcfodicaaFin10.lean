/- ErrdecErasesSaid is proved: for every k, m, data and missing the law returns true and its arguments read as they did. No condition. -/
import Derived.Test.YtjpgcjbcfodicaaMDS
import Derived.Test.YtjpgcjbcfodicaaOpen
import Derived.OpenShut
import Derived.Test.YtjpgcjbcfodicaaRows
namespace Go.Proofs.Ytjpgcjbcfodicaa
open Go.ChangeShapes Go.WideShapes Go.ChangeAt Go.RowKit Go.Eng
set_option linter.unusedVariables false
theorem own : ownKnob Try.prog.godebug = none := by kernel_rfl
theorem laidOut : laidOutB Try.prog = true := by kernel_rfl
theorem cells4 : Try.prog.cellsOf 4 = 1 := by kernel_rfl
theorem cells5 : Try.prog.cellsOf 5 = 1 := by kernel_rfl
theorem bytes4 : Try.prog.bytesOf 4 = 1 := by kernel_rfl
theorem bytes5 : Try.prog.bytesOf 5 = 1 := by kernel_rfl
theorem reach : reachBytes ≤ 140737488355328 := by decide
set_option maxRecDepth 100000 in
theorem lifted (os : Os) (started : os.Started) (H : Type) (enc : TypeId × Value → H) :
    ReturnsInHanded {} Try.checked os 3 .any (Rows.errdecErasesSpec.pre6 enc Try.prog Try.f3 Rows.errdecErasesRow.domain false) (Rows.errdecErasesSpec.post enc Try.prog Try.f3 false true false false) := by
  refine returnsInHanded_of_change_sized (C := Try.checked) own started (by kernel_rfl) Try.func3
    (ChangeSpec.witness6 (enc := enc) (C := Try.checked) false ⟨#[], #[.int .i64 0, .int .i64 0, .slice none 0 0, .slice none 0 0], []⟩ 8 (by kernel_rfl) (by kernel_rfl) (by kernel_rfl) (by kernel_rfl)) ?_
  intro W base args ds gs before hval0 hW hcnd hsz0 _
  have hval : ∀ (j : Nat) t v, Try.f3.params[j]? = some t → args[j]? = some v → Value.okWide Try.prog W .any base t v := hval0
  have hsz : (DataW.weightsEach Try.prog (Try.f3.params.toList ++ Rows.errdecErasesSpec.plain.varTypes Try.prog) (ds ++ gs)).all (· ≤ reachBytes) = true := hsz0
  have hW' := hW
  obtain ⟨p, q, hA0, hV, rfl, hfz, hnd⟩ := hW
  have hA : DataW.TrodAll enc Try.prog W 0 (fun _ => true) true Try.f3.params.toList args.toList ds p := hA0
  rw [Try.params3] at hA hval hsz
  obtain ⟨v0, v1, v2, v3, d0, d1, d2, d3, p0, p1, p2, p3, rfl, rfl, rfl, h0, h1, h2, h3⟩ := trodAll_four hA
  obtain ⟨rfl, rfl⟩ := trodVars_none hV
  obtain ⟨k, rfl, rfl, rfl, wk⟩ := open_int Try.underlying3 (hval 0 3 v0 rfl rfl) h0
  obtain ⟨m, rfl, rfl, rfl, wm⟩ := open_int Try.underlying3 (hval 1 3 v1 rfl rfl) h1
  obtain ⟨l, B⟩ := open_bytes Try.underlying22 Try.underlying5 cells5 (hval 2 22 v2 rfl rfl) h2 (fun el sp e => by
    subst e
    have := sized_slice hsz (j := 2) (t := 22) (e := 5) rfl rfl Try.underlying22
    rw [bytes5] at this
    have := reach
    omega)
  obtain ⟨ms, M⟩ := open_bools Try.underlying23 Try.underlying4 cells4 (hval 3 23 v3 rfl rfl) h3 (fun el sp e => by
    subst e
    have := sized_slice hsz (j := 3) (t := 23) (e := 4) rfl rfl Try.underlying23
    rw [bytes4] at this
    have := reach
    omega)
  have hlt := hW'.lt
  refine (ErrdecErases_spec k m B M (fun kk mm a b c d => l10 kk mm l ms a b c d) W rfl).mono fun e W' ⟨hr, hq⟩ => ?_
  cases e with
  | returned v =>
    obtain ⟨rfl, X⟩ := hq
    have hB := below_of hr.os hr.tape hr.output X
    have again : ∀ sp : Nat → Bool, (∀ p ∈ p2 ++ p3, sp p.block = true) → DataW.TrodAll enc Try.prog W' 0 sp true [3, 3, 22, 23] [.int .i64 k, .int .i64 m, v2, v3] [.lit (.int .i64 k), .lit (.int .i64 m), d2, d3] ([] ++ ([] ++ (p2 ++ (p3 ++ [])))) := fun sp hs => by
      have i0 : DataW.Trod enc Try.prog W' 0 sp true 3 (.int .i64 k) (.lit (.int .i64 k)) [] := shut_int Try.underlying3 wk
      have i1 : DataW.Trod enc Try.prog W' 0 sp true 3 (.int .i64 m) (.lit (.int .i64 m)) [] := shut_int Try.underlying3 wm
      have i2 := WideElems.Trod_stays (sp' := sp) laidOut (by kernel_rfl) (of_decide_eq_true (by kernel_rfl)) h2 (fun x hx => hB.same (hlt x (by simp [hx]))) (fun x hx => hs x (List.mem_append_left _ hx))
      have i3 := WideElems.Trod_stays (sp' := sp) laidOut (by kernel_rfl) (of_decide_eq_true (by kernel_rfl)) h3 (fun x hx => hB.same (hlt x (by simp [hx]))) (fun x hx => hs x (List.mem_append_right _ hx))
      exact trodAll_cons_mk i0 (trodAll_cons_mk i1 (trodAll_cons_mk i2 (trodAll_cons_mk i3 trodAll_mk0)))
    have ep : ([] : List MemPlace) ++ ([] ++ (p2 ++ (p3 ++ []))) = p2 ++ p3 := by simp
    rw [ep] at again
    refine ⟨_, rfl, post_of_below (pa := p2 ++ p3) (pv := []) hW' hB (fun _ _ _ => trodAll_cons_mk (shut_bool Try.underlying4 _) trodAll_mk0) ?_ ?_ (fun _ => rfl) (by simp) (ok_one (by kernel_rfl) rfl (okWide_bool_mk Try.underlying4 _))⟩
    · exact again _ (fun x hx => by simpa using hlt x (by simpa using hx))
    · exact again _ (fun _ _ => rfl)
  | panicked c => exact hq.elim
  | outgrown => exact hq.elim
theorem errdecErases_holds : Rows.ErrdecErasesSaid :=
  OpenClaim.holds_of_wide 3 Try.f3 rfl rfl rfl rfl rfl rfl rfl ⟨rfl, rfl, rfl, rfl, rfl⟩ rfl rfl rfl rfl rfl (by kernel_rfl) Try.func3 (by kernel_rfl)
    (of_decide_eq_true (by kernel_rfl)) (by unfold Func.isWrapper; first | (rw [if_pos (by decide +kernel)]; kernel_rfl) | (rw [if_neg (by decide +kernel)]; exact ⟨rfl, rfl⟩))
    (fun os started H enc _ => lifted os started H enc)
end Go.Proofs.Ytjpgcjbcfodicaa
#print axioms Go.Proofs.Ytjpgcjbcfodicaa.errdecErases_holds
