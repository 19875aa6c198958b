/- Records: Clip, Clone; a file that nobody else has. -/
import Derived.Test.YtmoebgkfmkdkpaaDoorFile
namespace Go.Proofs.YtmoebgkfmkdkpaaDoor
open Go.RowKit Go.Proofs
set_option linter.unusedSimpArgs false
set_option linter.unusedVariables false

set_option maxHeartbeats 400000 in
theorem rec_Clip (a : Option Addr) (n c : Nat) (hn : n ≤ c) (hc : c ≤ 9223372036854775807) (w : World) :
    Calls Tryd.prog 41 #[.slice a n c] w fun e w' => e = .returned (.slice a n n) ∧ w = w' := by
  go_enter Tryd.func41, Tryd.ntmps41
  go_wp2
  go_returns
  exact ⟨rfl, rfl⟩

set_option maxHeartbeats 400000 in
theorem rec_Clone (v : Value) (xs : List Rec) (w : World) (h : SlO recK w v xs) :
    Calls Tryd.prog 42 #[v] w fun e w' => ∃ v', e = .returned v' ∧ w'.ownsRow w.heap.size 25 4 v' xs.length (xs.flatMap recC) ∧ Below w.heap.size w w' := by
  obtain ⟨a, c, rfl, hc, hn, hm, hb0⟩ := h.open'
  replace hb0 : xs.length * 4 ≤ 140737488355328 := hb0
  have hni := @Lib.run_eql_slice_nil Tryd.prog
  cases a with
  | none =>
    have h0 : xs = [] := by
      rcases Nat.eq_zero_or_pos xs.length with h0 | h0
      · exact List.eq_nil_of_length_eq_zero h0
      · obtain ⟨_, _, _, _, e, _⟩ := h.get h0; cases e
    subst h0
    go_enter Tryd.func42, Tryd.ntmps42
    go_wp2
    go_returns
    exact ⟨_, rfl, World.ownsRow_nil _ _ _ _, Below.refl _ _⟩
  | some ad =>
    obtain ⟨cs, hL, hcl, hcs⟩ := h.cells
    obtain rfl := Kd.L_flat.1 hL
    obtain ⟨i0, hi, hz0, hz1, hz2⟩ := info_parts info_rec
    have hlt : ∀ (j : Nat) (u : Value), (xs.flatMap recC)[j]? = some u → (w.alloc (.cells #[] 25)).cell? (ad.add j) = some u := fun j u hu =>
      World.cell?_alloc_lt _ _ _ (World.block_lt_of_cell? _ _ (hcs j u hu)) ▸ hcs j u hu
    have hadd := Lib.hid hlt
    clear hlt hcs
    go_enter Tryd.func42, Tryd.ntmps42
    have hadd' := hadd.out
    have ho := World.ownsRow_made w #[] 0 (base := w.heap.size) (e := 25) (size := 4) (Nat.le_refl _) (by simp [maxLen]) rfl
    have hcl' : (xs.flatMap recC).length = xs.length * 4 := hcl
    have H1 := Lib.hid hadd'
    have H2 := Lib.hid ho
    have H3 := Lib.hid hcl'
    clear hadd' ho hcl'
    go_wp2_with (at_builtin; go_loud (refine wpList_append_own _ rfl (.tmp 5) (.tmp 6) 26 rfl w.heap.size 25 i0 (.agg #[.int .u8 0, .int .u8 0, .int .u8 0, .int .u8 0]) 4 4 Tryd.underlying26 hi hz0 hz1 hz2 rfl (by decide) _ 0 [] rfl H2.out ad xs.length c _ rfl H3.out H1.out recC_one ?c1 ?c2 ?c3 ?_))
    case c1 => unfold maxLen; omega
    case c2 => omega
    case c3 => simp
    intro v' w1 hown hgrow _
    go_wp2
    go_returns
    refine ⟨v', rfl, by simpa using hown, ?_⟩
    exact (below_al (Below.refl _ _) (Nat.le_refl _) _).grown hgrow (by simp) (fun k hk => by simp [Value.ownBlock] at hk; omega)

/-- A slice of records that nobody else has: nil, or a block of its own. -/
def RecOwn (w : World) (base : Nat) (v : Value) (xs : List Rec) : Prop :=
  (xs = [] ∧ ∃ a, v = .slice a 0 0) ∨ (∃ g, v = .slice (some ⟨g, 0, none⟩) xs.length xs.length ∧ base ≤ g ∧ RecRow w g xs ∧ 0 < xs.length)

set_option maxHeartbeats 400000 in
theorem ifs_own (perm : Int) (v : Value) (xs : List Rec) (w : World) (h : SlO recK w v xs) :
    Calls Tryd.prog 24 #[.agg #[.int .i64 perm, v]] w fun e w' => ∃ v', e = .returned (.agg #[.int .i64 perm, v']) ∧ RecOwn w' w.heap.size v' xs ∧ Below w.heap.size w w' := by
  obtain ⟨a, c, hv, hc, hn, hm, hb0⟩ := h.open'
  have H := Lib.hid (fun (W : World) (hb : Below w.heap.size w W) => rec_Clone v xs W (h.up hb))
  clear h
  subst hv
  go_enter Tryd.func24, Tryd.ntmps24
  go_wp2_with (go_at_call 42; refine (H.out _ (by (repeat' (first | (with_reducible exact Below.refl _ _) | (with_reducible refine below_ext ?_ ?_ _) | (with_reducible refine below_al ?_ ?_ _) | (with_reducible refine Below.drew ?_) | (with_reducible refine Below.setCell ?_ ?_ _) | (with_reducible assumption) | (first | (with_reducible exact Nat.le_refl _) | omega | (simp only [World.size_alloc, World.size_setCell, World.size_drew] at *; omega) | (simp at *; omega) | (simp; done)))))).mono ?_; rintro e w' ⟨v', rfl, hown, hb⟩; obtain ⟨x, rfl, hx⟩ := ext_intro hb; clear hb)
  rcases hown with ⟨h1, ⟨rfl, h2⟩ | ⟨g, cap, cur, rfl, h3, h4, h5, h6, h7, h8⟩⟩
  · go_wp2_with (go_at_call 41; refine (rec_Clip _ _ _ (Nat.le_refl _) (by omega) _).mono ?_; rintro e w' ⟨rfl, rfl⟩)
    go_returns
    exact ⟨_, rfl, .inl ⟨List.eq_nil_of_length_eq_zero h2, _, rfl⟩, by (repeat' (first | (with_reducible exact Below.refl _ _) | (with_reducible refine below_ext ?_ ?_ _) | (with_reducible refine below_al ?_ ?_ _) | (with_reducible refine Below.drew ?_) | (with_reducible refine Below.setCell ?_ ?_ _) | (with_reducible assumption) | (first | (with_reducible exact Nat.le_refl _) | omega | (simp only [World.size_alloc, World.size_setCell, World.size_drew] at *; omega) | (simp at *; omega) | (simp; done))))⟩
  · have hR : RecRow _ g xs := RecRow.of_owns ⟨h1, .inr ⟨g, cap, cur, rfl, h3, h4, h5, h6, h7, h8⟩⟩
    have HR := Lib.hid hR
    have h5' := Lib.hid h5
    have h6' : cap ≤ 9223372036854775807 := by unfold maxLen at h6; omega
    clear hR h4 h7 h8 h1 h6
    by_cases hz : xs = []
    · subst hz
      go_wp2_with (go_at_call 41; refine (rec_Clip _ _ _ (Nat.zero_le _) h6' _).mono ?_; rintro e w' ⟨rfl, rfl⟩)
      go_returns
      exact ⟨_, rfl, .inl ⟨rfl, _, rfl⟩, by (repeat' (first | (with_reducible exact Below.refl _ _) | (with_reducible refine below_ext ?_ ?_ _) | (with_reducible refine below_al ?_ ?_ _) | (with_reducible refine Below.drew ?_) | (with_reducible refine Below.setCell ?_ ?_ _) | (with_reducible assumption) | (first | (with_reducible exact Nat.le_refl _) | omega | (simp only [World.size_alloc, World.size_setCell, World.size_drew] at *; omega) | (simp at *; omega) | (simp; done))))⟩
    · have hp : 0 < xs.length := List.length_pos_iff.2 hz
      clear hz h5
      go_wp2_with (go_at_call 41; refine (rec_Clip _ _ _ h5'.out h6' _).mono ?_; rintro e w' ⟨rfl, rfl⟩)
      go_returns
      refine ⟨_, rfl, .inr ⟨g, rfl, by simp at h3; omega, HR.out.keep ?_, hp⟩, by (repeat' (first | (with_reducible exact Below.refl _ _) | (with_reducible refine below_ext ?_ ?_ _) | (with_reducible refine below_al ?_ ?_ _) | (with_reducible refine Below.drew ?_) | (with_reducible refine Below.setCell ?_ ?_ _) | (with_reducible assumption) | (first | (with_reducible exact Nat.le_refl _) | omega | (simp only [World.size_alloc, World.size_setCell, World.size_drew] at *; omega) | (simp at *; omega) | (simp; done))))⟩
      simp only [World.size_alloc] at h3
      (repeat rw [Below.heap_setCell _ _ _ _ (by simp; omega)])
end Go.Proofs.YtmoebgkfmkdkpaaDoor
