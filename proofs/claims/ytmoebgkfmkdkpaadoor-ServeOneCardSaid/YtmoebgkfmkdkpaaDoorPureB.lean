/- ServeOne: what one byte that is turned comes to: plain Lean, no program in sight. -/
import Derived.Test.YtmoebgkfmkdkpaaDoorSpecB
namespace Go.Proofs.YtmoebgkfmkdkpaaDoor
set_option linter.unusedSimpArgs false

theorem Rec.zero_wf : Rec.zero.wf := by simp [Rec.wf, Rec.zero]
theorem getD_wf {xs : List Rec} (h : ∀ r ∈ xs, r.wf) (i : Nat) : (xs.getD i .zero).wf := by
  rw [List.getD_eq_getElem?_getD]
  cases hr : xs[i]? with
  | none => exact Rec.zero_wf
  | some r => exact h r (List.mem_of_getElem? hr)
theorem St.Ok.do_rec {s : St} (h : s.Ok) (op file rec : Int) {v : Rec} (hv : v.wf) : (s.do op file rec v).2.1.wf := by
  unfold St.do St.op
  split
  · exact Rec.zero_wf
  · split
    · exact Rec.zero_wf
    · rename_i f hf
      split
      · exact getD_wf (doRecs_wf (h.get hf).2.2 _ _ hv) _
      · exact Rec.zero_wf
theorem answerB_wf {s : St} (h : s.Ok) (name : Int) (ask : Rec) (data : B5) (hd : data.v.wf) : (answerB s name ask data).2.1.wf := by
  unfold answerB
  split
  · exact Rec.zero_wf
  · split
    · exact Rec.zero_wf
    · split
      · exact Rec.zero_wf
      · exact h.do_rec _ _ _ (by split; exact hd; exact Rec.zero_wf)
theorem answerB_ok {s : St} (h : s.Ok) (name : Int) (ask : Rec) (data : B5) (hd : data.v.wf) : (answerB s name ask data).1.Ok := by
  unfold answerB
  split
  · exact h
  · split
    · exact h
    · split
      · exact h
      · exact h.do _ _ _ (by split; exact hd; exact Rec.zero_wf)
theorem serveB_ok {s : St} (h : s.Ok) (name : Int) (ask : Rec) (data : B5) (hd : data.v.wf) : (serveB s name ask data).1.Ok := by
  unfold serveB
  split <;> exact answerB_ok h name ask data hd
theorem openB_data (v : Rec) : openB (dataB v) = (v, 0) := by simp [openB, dataB]
theorem turn5_zero {v : Rec} (h : v.wf) {t : Int → Int} {o : Int} (h0 : t o = 0) (h1 : t (o + 1) = 0) (h2 : t (o + 2) = 0) (h3 : t (o + 3) = 0) (h4 : t (o + 4) = 0) : turn5 (dataB v) t o = dataB v := by
  unfold turn5
  rw [h4, show (dataB v).v = v from rfl, turnR_zero h h0 h1 h2 h3, show (dataB v).k = chk4 v from rfl, x8_zero (chk4_byte h)]
  rfl

theorem serveOne_law {s : St} (hs : s.Ok) (name op file rec : Int) {v : Rec} (hv : v.wf) (k y : Int) (hk : 0 ≤ k ∧ k < 14) (hy : byte y) :
    ((tryB s name name op file rec v (one k y)).2.2 = 0 → (tryB s name name op file rec v (fun _ => 0)).2.2 = 0 ∧ (tryB s name name op file rec v (one k y)).2.1 = (tryB s name name op file rec v (fun _ => 0)).2.1 ∧
      (tryB s name name op file rec v (one k y)).1.files = (tryB s name name op file rec v (fun _ => 0)).1.files) ∧
    ((tryB s name name op file rec v (one k y)).1.files = s.files ∨ (tryB s name name op file rec v (one k y)).1.files = (tryB s name name op file rec v (fun _ => 0)).1.files) ∧
    ((tryB s name name op file rec v (fun _ => 0)).2.2 = 0 ∨ (tryB s name name op file rec v (one k y)).2.2 ≠ 0) ∧
    (y ≠ 0 ∨ (tryB s name name op file rec v (one k y)).2.2 = (tryB s name name op file rec v (fun _ => 0)).2.2) := by
  suffices H : tryB s name name op file rec v (one k y) = tryB s name name op file rec v (fun _ => 0) ∨
      (y ≠ 0 ∧ (tryB s name name op file rec v (one k y)).2.2 ≠ 0 ∧ ((tryB s name name op file rec v (one k y)).1.files = s.files ∨ (tryB s name name op file rec v (one k y)).1.files = (tryB s name name op file rec v (fun _ => 0)).1.files)) by
    rcases H with e | ⟨h1, h2, h3⟩
    · rw [e]
      refine ⟨fun h => ⟨h, rfl, rfl⟩, .inr rfl, ?_, .inr rfl⟩
      exact Classical.em _
    · exact ⟨fun h => absurd h h2, h3, .inr h2, .inl h1⟩
  by_cases h0 : y = 0
  · subst h0
    left
    congr 1
    funext i
    unfold one
    split <;> rfl
  by_cases ha : (askB name op file rec).2 = 0
  · obtain ⟨n1, n2, n3⟩ := askB_ok ha
    have hA := askB_wf (name := name) (op := op) (file := file) (rec := rec)
    have hz : turnR (askB name op file rec).1 (fun _ => 0) 0 = (askB name op file rec).1 := turnR_zero hA rfl rfl rfl rfl
    have hz5 : turn5 (dataB v) (fun _ => 0) 4 = dataB v := turn5_zero hv rfl rfl rfl rfl rfl
    have hchk : chk3 (askB name op file rec).1 = (askB name op file rec).1.d := by rw [n3]; rfl
    have hback : ∀ (X : Rec) (D : B5), D.v.wf → (serveB s name X D).2.2 = true → ∃ w : Rec, w.wf ∧ (serveB s name X D).2.1 = dataB w := by
      intro X D hD hh
      unfold serveB at hh ⊢
      split
      · exact ⟨_, answerB_wf hs name X D hD, rfl⟩
      · rename_i h1; rw [if_neg h1] at hh; cases hh
    rcases (show k < 4 ∨ (4 ≤ k ∧ k < 9) ∨ 9 ≤ k by omega) with h4 | ⟨h4, h9⟩ | h9
    · right
      have hne : chk3 (turnR (askB name op file rec).1 (one k y) 0) ≠ (turnR (askB name op file rec).1 (one k y) 0).d := by
        rcases chk3_turn hA hy h0 ⟨hk.1, h4⟩ with h | h
        · exact h
        · exact absurd hchk h
      have e1 : ∀ D, serveB s name (turnR (askB name op file rec).1 (one k y) 0) D = (s, .zero, false) := by
        intro D
        unfold serveB answerB
        simp only [if_pos (Or.inl hne : chk3 (turnR (askB name op file rec).1 (one k y) 0) ≠ (turnR (askB name op file rec).1 (one k y) 0).d ∨ (turnR (askB name op file rec).1 (one k y) 0).a ≠ name)]
        rfl
      have e2 : tryB s name name op file rec v (one k y) = (s, .zero, 13) := by
        unfold tryB
        rw [e1, if_neg (by simpa using ha)]
        rfl
      rw [e2]
      exact ⟨h0, by simp, .inl rfl⟩
    · have hA' : turnR (askB name op file rec).1 (one k y) 0 = (askB name op file rec).1 := turnR_zero hA (by simp [one]; omega) (by simp [one]; omega) (by simp [one]; omega) (by simp [one]; omega)
      have hne := chk4_turn hv hy h0 (o := 4) ⟨h4, by omega⟩
      by_cases hop : (askB name op file rec).1.b / 64 = 1 ∧ ¬ 192 ≤ (askB name op file rec).1.b
      · right
        have e1 : serveB s name (askB name op file rec).1 (turn5 (dataB v) (one k y) 4) = (s, .zero, false) := by
          have : answerB s name (askB name op file rec).1 (turn5 (dataB v) (one k y) 4) = (s, .zero, 14) := by
            unfold answerB
            rw [if_neg (by rw [hchk, n3]; simp), if_neg hop.2, if_pos ⟨hop.1, hne⟩]
          unfold serveB
          rw [this]
          rfl
        have e2 : tryB s name name op file rec v (one k y) = (s, .zero, 13) := by
          unfold tryB
          rw [hA', e1, if_neg (by simpa using ha)]
          rfl
        rw [e2]
        exact ⟨h0, by simp, .inl rfl⟩
      · left
        have e1 : answerB s name (askB name op file rec).1 (turn5 (dataB v) (one k y) 4) = answerB s name (askB name op file rec).1 (dataB v) := by
          by_cases hb : 192 ≤ (askB name op file rec).1.b
          · unfold answerB
            simp only [if_pos hb]
          · have hb1 : ¬ (askB name op file rec).1.b / 64 = 1 := fun e => hop ⟨e, hb⟩
            unfold answerB
            simp only [hb1, if_false, false_and]
        have e2 : serveB s name (askB name op file rec).1 (turn5 (dataB v) (one k y) 4) = serveB s name (askB name op file rec).1 (dataB v) := by
          unfold serveB
          rw [e1]
        unfold tryB
        rw [hz, hz5, hA', e2]
        cases hsv : (serveB s name (askB name op file rec).1 (dataB v)).2.2 with
        | false => rfl
        | true =>
          obtain ⟨w, hw, ew⟩ := hback _ _ hv hsv
          have t1 : turn5 (dataB w) (one k y) 9 = dataB w := turn5_zero hw (by simp [one]; omega) (by simp [one]; omega) (by simp [one]; omega) (by simp [one]; omega) (by simp [one]; omega)
          have t2 : turn5 (dataB w) (fun _ => 0) 9 = dataB w := turn5_zero hw rfl rfl rfl rfl rfl
          rw [ew, t1, t2]
    · have hA' : turnR (askB name op file rec).1 (one k y) 0 = (askB name op file rec).1 := turnR_zero hA (by simp [one]; omega) (by simp [one]; omega) (by simp [one]; omega) (by simp [one]; omega)
      have hD' : turn5 (dataB v) (one k y) 4 = dataB v := turn5_zero hv (by simp [one]; omega) (by simp [one]; omega) (by simp [one]; omega) (by simp [one]; omega) (by simp [one]; omega)
      cases hsv : (serveB s name (askB name op file rec).1 (dataB v)).2.2 with
      | false =>
        left
        unfold tryB
        rw [hz, hz5, hA', hD', hsv]
        rfl
      | true =>
        right
        obtain ⟨w, hw, ew⟩ := hback _ _ hv hsv
        have hne := chk4_turn hw hy h0 (o := 9) ⟨h9, by omega⟩
        unfold tryB
        rw [hz, hz5, hA', hD', hsv, ew]
        rw [if_neg (by simpa using ha), if_neg (by simp), if_neg (by simpa using ha), if_neg (by simp)]
        exact ⟨h0, hne, .inr rfl⟩
  · left
    unfold tryB
    rw [if_pos ha, if_pos ha]
end Go.Proofs.YtmoebgkfmkdkpaaDoor
