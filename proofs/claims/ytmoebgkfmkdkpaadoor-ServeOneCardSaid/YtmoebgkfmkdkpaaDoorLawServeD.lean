/- ServeOne: where one byte at most is turned, all is as it was, or as it is without that; what is answered with OK was done, and is what the record has: for every input the law returns true, and its arguments read as they did; errors' own variable being laid as the program's text lays it. -/
import Derived.Test.YtmoebgkfmkdkpaaDoorLiftB
import Derived.Test.YtmoebgkfmkdkpaaDoorLawServeC
import Derived.Test.YtmoebgkfmkdkpaaDoorCards
import Derived.Test.YtmoebgkfmkdkpaaDoorTie
import Derived.SevenTiedAt
namespace Go.Proofs.YtmoebgkfmkdkpaaDoor
open Go.ChangeShapes Go.WideShapes Go.RowKit Go.Proofs
set_option linter.unusedSimpArgs false
set_option linter.unusedVariables false

set_option maxRecDepth 100000 in
theorem serveOne_lifted (os : Os) (started : os.Started) (H : Type) (enc : TypeId × Value → H) :
    ReturnsInHanded {} Tryd.checked os 4 .any (fun w args => (Rows.serveOneSpec.pre enc Tryd.prog Tryd.f4 [] false w args ∧ laidMetH Tryd.prog [("errors.errorType", Rows.laid_errors_errorType)] w) ∧ sizedMet enc Tryd.prog Tryd.f4 (OpenSpec.ofChange Rows.serveOneSpec) false w args)
      (Rows.serveOneSpec.post enc Tryd.prog Tryd.f4 false true false false) := by
  refine returnsInHanded_of_change_and (C := Tryd.checked) (X := fun w _ => laidMetH Tryd.prog [("errors.errorType", Rows.laid_errors_errorType)] w) (fun _ _ _ hh h => h.of_heap hh) lift_own started (by kernel_rfl) Tryd.func4
    (ChangeSpec.witness_at (enc := enc) (C := Tryd.checked) (os := os) (X := fun w _ => laidMetH Tryd.prog [("errors.errorType", Rows.laid_errors_errorType)] w) false (laidWorld os) #[.slice none 0 0, .int .i64 0, .agg #[.int .i64 0, .int .i64 0, .int .i64 0], .agg #[.int .u8 0, .int .u8 0, .int .u8 0, .int .u8 0], .int .u8 0, .int .u8 0] 8 rfl (by kernel_rfl) (by kernel_rfl) (by kernel_rfl) (by kernel_rfl) (by kernel_rfl) (laidWorld_met os _)) ?_
  intro W base args ds gs before hval0 hW _ hsz0 hL _
  have hval : ∀ (j : Nat) t v, Tryd.f4.params[j]? = some t → args[j]? = some v → Value.okWide Tryd.prog W .any base t v := hval0
  have hW' := hW
  obtain ⟨p, q, hA0, hV0, rfl, hfz, hnd⟩ := hW
  have hA : DataW.TrodAll enc Tryd.prog W 0 (fun _ => true) true Tryd.f4.params.toList args.toList ds p := hA0
  have hV : DataW.TrodVars enc Tryd.prog W (fun _ => true) [] gs q := hV0
  have hlt : ∀ x ∈ p, x.block < W.heap.size := fun x hx => hW'.lt x (by simp [hx])
  obtain ⟨rfl, rfl⟩ : gs = [] ∧ q = [] := by
    cases gs with
    | nil => exact ⟨rfl, hV⟩
    | cons g r => exact absurd hV (by intro h; cases h)
  have hl := lib0_of_laid hL
  have hA2 := hA
  have hsz : ∀ n ∈ DataW.weightsEach Tryd.prog Tryd.f4.params.toList ds, n ≤ reachBytes := by
    have h1 : (DataW.weightsEach Tryd.prog (Tryd.f4.params.toList ++ []) (ds ++ [])).all (· ≤ reachBytes) = true := hsz0
    rw [List.append_nil, List.append_nil] at h1
    intro n hn
    simpa using List.all_eq_true.1 h1 n hn
  rw [Tryd.params4] at hA hval hsz
  obtain ⟨args⟩ := args
  obtain ⟨v0, vs, d0, ds0, p0, q0, rfl, rfl, t0, hA⟩ := trodAll_cons hA
  obtain ⟨v1, vs, d1, ds1, p1, q1, rfl, rfl, t1, hA⟩ := trodAll_cons hA
  obtain ⟨v2, vs, d2, ds2, p2, q2, rfl, rfl, t2, hA⟩ := trodAll_cons hA
  obtain ⟨v3, vs, d3, ds3, p3, q3, rfl, rfl, t3, hA⟩ := trodAll_cons hA
  obtain ⟨v4, vs, d4, ds4, p4, q4, rfl, rfl, t4, hA⟩ := trodAll_cons hA
  obtain ⟨v5, vs, d5, ds5, p5, q5, rfl, rfl, t5, hA⟩ := trodAll_cons hA
  obtain ⟨rfl, rfl⟩ := trodAll_none hA
  obtain ⟨w0, hsz⟩ := weights_cons hsz
  obtain ⟨w1, hsz⟩ := weights_cons hsz
  obtain ⟨w2, hsz⟩ := weights_cons hsz
  obtain ⟨w3, hsz⟩ := weights_cons hsz
  obtain ⟨w4, hsz⟩ := weights_cons hsz
  obtain ⟨w5, hsz⟩ := weights_cons hsz
  obtain ⟨xs, hxs, hwf⟩ := rdw_nameds (arg_slice Tryd.underlying42 (hval 0 _ _ rfl rfl) (trod_rdw t0 w0))
  obtain ⟨name, rfl, _⟩ := arg_int Tryd.underlying3 (hval 1 _ _ rfl rfl) (trod_rdw t1 w1)
  obtain ⟨op, file, rec, rfl⟩ := arg_addr (hval 2 _ _ rfl rfl) (trod_rdw t2 w2)
  obtain ⟨vr, rfl, hvr⟩ := arg_rec (hval 3 _ _ rfl rfl) (trod_rdw t3 w3)
  obtain ⟨at_, rfl, hat⟩ := arg_int Tryd.underlying5 (hval 4 _ _ rfl rfl) (trod_rdw t4 w4)
  obtain ⟨y, rfl, hy⟩ := arg_int Tryd.underlying5 (hval 5 _ _ rfl rfl) (trod_rdw t5 w5)
  have e1 : Rows.serveOneSpec.fn H ([d0, d1, d2, d3, d4, d5] ++ []) = { results := [.lit (.bool true)], args := [d0, d1, d2, d3, d4, d5] } := by simp [Rows.serveOneSpec]
  refine (law16_ServeOne hl (F := Here W) (fun b hb => hb) xs v0 hxs hwf name op file rec vr hvr at_ y (wf_u8 hat) (wf_u8 hy)).mono fun e W' ⟨he, hb⟩ => ?_
  subst he
  refine ⟨_, rfl, _, _, _, [], p, [], hW', ?_, ?_, ?_, hb.frame _, fun h => by cases h⟩
  · rw [e1]; exact trodAll_mk1 (shut_bool Tryd.underlying4 true)
  · rw [e1]; exact trodAll_up hb (by
      intro t ht
      rw [Tryd.params4] at ht
      simp at ht
      rcases ht with rfl | rfl | rfl | rfl | rfl | rfl <;> exact ⟨by kernel_rfl, of_decide_eq_true (by kernel_rfl)⟩) hA2 hlt
  · rw [e1]; rfl

theorem serveOne_said : Rows.ServeOneSaid :=
  OpenClaim.holds_of_wide 4 Tryd.f4 rfl rfl rfl rfl rfl rfl rfl ⟨rfl, rfl, rfl, rfl, rfl⟩ rfl rfl rfl rfl rfl (by kernel_rfl) Tryd.func4 (by kernel_rfl)
    (of_decide_eq_true (by kernel_rfl)) (by unfold Func.isWrapper; rw [if_neg (of_decide_eq_false (by kernel_rfl))]; exact ⟨rfl, rfl⟩)
    (fun os started H enc _ => serveOne_lifted os started H enc)

theorem serveOne_holds : Rows.ServeOneCardSaid :=
  Claim7.holds_tied_plain_at .later [] [.handle] true (true, "60f40e08aab95729f887f6c8a68326b8a30e81aff1d8b6ce8242dc883f94ab16") true
    serveOne_said (fun _ h => by cases h) (by kernel_rfl) (fun _ h => by cases h) serveOne_row_tie rfl ⟨rfl, rfl⟩ (by kernel_rfl) rfl
    (fun f fn hf hfn => by
      obtain rfl : f = 4 := Option.some.inj ((show Tryd.prog.funcNamed "hayward/haywardlaw16.ServeOne" = some 4 by kernel_rfl).symm.trans hf) |>.symm
      obtain rfl : fn = Tryd.f4 := (Option.some.inj (Tryd.func4.symm.trans hfn)).symm
      exact ⟨by kernel_rfl, fun j t ht => by
        rw [Tryd.params4] at ht
        rcases j with _ | _ | _ | _ | _ | _ | j
        all_goals (simp at ht; try subst ht)
        all_goals (first | (exact (show Tryd.prog.wantsStandIn _ = false by kernel_rfl)) | skip)⟩)
    (by kernel_rfl)
#print axioms serveOne_holds
end Go.Proofs.YtmoebgkfmkdkpaaDoor
