/- IfsNobody: no store answers so: for every input the law returns true, and its argument reads as it did; errors' own variable being laid as the program's text lays it. -/
import Derived.Test.YtmoebgkfmkdkpaaDoorLift
import Derived.Test.YtmoebgkfmkdkpaaDoorLawIfs
import Derived.Test.YtmoebgkfmkdkpaaDoorCards
import Derived.Test.YtmoebgkfmkdkpaaDoorTie
import Derived.SevenTiedAt
namespace Go.Proofs.YtmoebgkfmkdkpaaDoor
open Go.ChangeShapes Go.WideShapes Go.RowKit Go.Proofs
set_option linter.unusedSimpArgs false
set_option linter.unusedVariables false

section
variable {H : Type} {enc : TypeId × Value → H} {w : World}
theorem cells_deed : Tryd.prog.cellsOf 30 = 10 := by kernel_rfl
theorem rd_deed {cs : List Value} (h : Rd enc w 30 cs) : ∃ (kind op file rec perm : Int) (v : Rec) (a : Option Addr) (n c : Nat), cs = [.int .u8 kind, .int .i64 op, .int .i64 file, .int .i64 rec, .int .u8 v.a, .int .u8 v.b, .int .u8 v.c, .int .u8 v.d, .int .i64 perm, .slice a n c] ∧ n ≤ c ∧ c ≤ maxLen := by
  obtain ⟨hl, hf⟩ := rd_struct Tryd.underlying30 h
  rw [cells_deed] at hl
  obtain ⟨c0, c1, c2, c3, c4, c5, c6, c7, c8, c9, rfl⟩ := list10 hl
  have f0 : Rd enc w 5 (([c0, c1, c2, c3, c4, c5, c6, c7, c8, c9].drop 0).take (Tryd.prog.cellsOf 5)) := hf 0 _ rfl
  have f1 : Rd enc w 23 (([c0, c1, c2, c3, c4, c5, c6, c7, c8, c9].drop 1).take (Tryd.prog.cellsOf 23)) := hf 1 _ rfl
  have f2 : Rd enc w 25 (([c0, c1, c2, c3, c4, c5, c6, c7, c8, c9].drop 4).take (Tryd.prog.cellsOf 25)) := hf 2 _ rfl
  have f3 : Rd enc w 28 (([c0, c1, c2, c3, c4, c5, c6, c7, c8, c9].drop 8).take (Tryd.prog.cellsOf 28)) := hf 3 _ rfl
  rw [cells_u8] at f0
  rw [cells_addr] at f1
  rw [cells_rec] at f2
  rw [cells_file] at f3
  obtain ⟨k, e0, _⟩ := rd_int Tryd.underlying5 f0
  obtain ⟨a, b, c, e1, e2, e3⟩ := rd_addr f1
  obtain ⟨r, e4, _⟩ := rd_rec f2
  obtain ⟨p, s, n, m, e5, e6, h2, h3⟩ := rd_file_shape f3
  simp [recC] at e0 e4
  obtain ⟨e41, e42, e43, e44⟩ := e4
  exact ⟨k, a, b, c, p, r, s, n, m, by rw [e0, e1, e2, e3, e41, e42, e43, e44, e5, e6], h2, h3⟩
end

set_option maxRecDepth 100000 in
theorem nobody_lifted (os : Os) (started : os.Started) (H : Type) (enc : TypeId × Value → H) :
    ReturnsInHanded {} Tryd.checked os 3 .any (fun w args => (Rows.ifsNobodySpec.pre enc Tryd.prog Tryd.f3 [] false w args ∧ laidMetH Tryd.prog [("errors.errorType", Rows.laid_errors_errorType)] w) ∧ sizedMet enc Tryd.prog Tryd.f3 (OpenSpec.ofChange Rows.ifsNobodySpec) false w args)
      (Rows.ifsNobodySpec.post enc Tryd.prog Tryd.f3 false true false false) := by
  refine returnsInHanded_of_change_and (C := Tryd.checked) (X := fun w _ => laidMetH Tryd.prog [("errors.errorType", Rows.laid_errors_errorType)] w) (fun _ _ _ hh h => h.of_heap hh) lift_own started (by kernel_rfl) Tryd.func3
    (ChangeSpec.witness_at (enc := enc) (C := Tryd.checked) (os := os) (X := fun w _ => laidMetH Tryd.prog [("errors.errorType", Rows.laid_errors_errorType)] w) false (laidWorld os) #[.agg #[.int .u8 0, .int .i64 0, .int .i64 0, .int .i64 0, .int .u8 0, .int .u8 0, .int .u8 0, .int .u8 0, .int .i64 0, .slice none 0 0]] 8 rfl (by kernel_rfl) (by kernel_rfl) (by kernel_rfl) (by kernel_rfl) (by kernel_rfl) (laidWorld_met os _)) ?_
  intro W base args ds gs before hval0 hW _ _ hL _
  have hval : ∀ (j : Nat) t v, Tryd.f3.params[j]? = some t → args[j]? = some v → Value.okWide Tryd.prog W .any base t v := hval0
  have hW' := hW
  obtain ⟨p, q, hA0, hV0, rfl, hfz, hnd⟩ := hW
  have hA : DataW.TrodAll enc Tryd.prog W 0 (fun _ => true) true Tryd.f3.params.toList args.toList ds p := hA0
  have hV : DataW.TrodVars enc Tryd.prog W (fun _ => true) [] gs q := hV0
  have hlt : ∀ x ∈ p, x.block < W.heap.size := fun x hx => hW'.lt x (by simp [hx])
  obtain ⟨rfl, rfl⟩ : gs = [] ∧ q = [] := by
    cases gs with
    | nil => exact ⟨rfl, hV⟩
    | cons g r => exact absurd hV (by intro h; cases h)
  have hl := lib0_of_laid hL
  have hA2 := hA
  rw [Tryd.params3] at hA hval
  obtain ⟨v0, d0, rfl, rfl, h0⟩ := trodAll_one hA
  obtain ⟨cs, rfl, hsz⟩ := okWide_struct Tryd.underlying30 (hval 0 _ _ rfl rfl)
  obtain ⟨fuel, hfu⟩ := h0
  obtain ⟨kind, op, file, rec, perm, v, a, n, c, hcs, hn, hc⟩ := rd_deed ⟨fuel, _, hfu⟩
  obtain ⟨l⟩ := cs
  have hcs' : l = [.int .u8 kind, .int .i64 op, .int .i64 file, .int .i64 rec, .int .u8 v.a, .int .u8 v.b, .int .u8 v.c, .int .u8 v.d, .int .i64 perm, .slice a n c] := by simpa [Value.cells] using hcs
  subst hcs'
  have e1 : Rows.ifsNobodySpec.fn H ([d0] ++ []) = { results := [.lit (.bool true)], args := [d0] } := by simp [Rows.ifsNobodySpec]
  refine (law10_IfsNobody kind op file rec perm v a n c hn (by unfold maxLen at hc; omega) W hl).mono fun e W' ⟨he, hb⟩ => ?_
  subst he
  refine ⟨_, rfl, _, _, _, [], p, [], hW', ?_, ?_, ?_, hb.frame _, fun h => by cases h⟩
  · rw [e1]; exact trodAll_mk1 (shut_bool Tryd.underlying4 true)
  · rw [e1]; exact trodAll_up hb (by intro t ht; rw [Tryd.params3] at ht; simp at ht; subst ht; exact ⟨by kernel_rfl, of_decide_eq_true (by kernel_rfl)⟩) hA2 hlt
  · rw [e1]; rfl

theorem ifsNobody_said : Rows.IfsNobodySaid :=
  OpenClaim.holds_of_wide 3 Tryd.f3 rfl rfl rfl rfl rfl rfl rfl ⟨rfl, rfl, rfl, rfl, rfl⟩ rfl rfl rfl rfl rfl (by kernel_rfl) Tryd.func3 (by kernel_rfl)
    (of_decide_eq_true (by kernel_rfl)) (by unfold Func.isWrapper; rw [if_neg (of_decide_eq_false (by kernel_rfl))]; exact ⟨rfl, rfl⟩)
    (fun os started H enc _ => nobody_lifted os started H enc)

theorem ifsNobody_holds : Rows.IfsNobodyCardSaid :=
  Claim7.holds_tied_plain_at .later [] [.handle] true (true, "60f40e08aab95729f887f6c8a68326b8a30e81aff1d8b6ce8242dc883f94ab16") true
    ifsNobody_said (fun _ h => by cases h) (by kernel_rfl) (fun _ h => by cases h) ifsNobody_row_tie rfl ⟨rfl, rfl⟩ (by kernel_rfl) rfl
    (fun f fn hf hfn => by
      obtain rfl : f = 3 := Option.some.inj ((show Tryd.prog.funcNamed "hayward/haywardlaw10.IfsNobody" = some 3 by kernel_rfl).symm.trans hf) |>.symm
      obtain rfl : fn = Tryd.f3 := (Option.some.inj (Tryd.func3.symm.trans hfn)).symm
      exact ⟨by kernel_rfl, fun j t ht => by
        rw [Tryd.params3] at ht
        have h3 : t = 30 := by
          rcases j with _ | j
          · simpa using ht.symm
          · simp at ht
        subst h3
        exact (show Tryd.prog.wantsStandIn 30 = false by kernel_rfl)⟩)
    (by kernel_rfl)
#print axioms ifsNobody_holds
end Go.Proofs.YtmoebgkfmkdkpaaDoor
