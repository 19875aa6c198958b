/- The document's answer, layer 9: Header, New, Good. -/
import Derived.Test.YtmoebgkfmkdkpaaDoorFiles
namespace Go.Proofs.YtmoebgkfmkdkpaaDoor
open Go.RowKit Go.Proofs
set_option linter.unusedSimpArgs false
set_option linter.unusedVariables false

theorem ref_Header (perm n : Int) (w : World) :
    Calls Tryd.prog 39 #[.int .i64 perm, .int .i64 n] w fun e w' => e = .returned (recV (hdr perm n)) ∧ Below w.heap.size w w' := by
  go_enter Tryd.func39, Tryd.ntmps39
  go_wp2
  go_returns
  exact ⟨rfl, by (repeat' (first | (with_reducible exact Below.refl _ _) | (with_reducible refine below_ext ?_ ?_ _) | (with_reducible refine below_al ?_ ?_ _) | (with_reducible refine Below.drew ?_) | (with_reducible refine Below.setCell ?_ ?_ _) | (with_reducible assumption) | (first | (with_reducible exact Nat.le_refl _) | omega | (simp only [World.size_alloc, World.size_setCell, World.size_drew] at *; omega) | (simp at *; omega) | (simp; done))))⟩

def newRecs (perm : Int) (n : Nat) : List Rec := hdr perm n :: List.replicate n .zero
theorem newRecs_good (perm : Int) (n : Nat) (h1 : 0 ≤ perm) (h2 : perm ≤ 7) (h3 : n ≤ 255) : (⟨perm, newRecs perm n⟩ : File).good = true := by
  simp [File.good, newRecs, h1, h2]
  omega

theorem kept2 {wr w2 : World} {u : Obj} {row : Option Nat} (h : (wr.alloc u).grownBy w2 row) {b o : Nat} (hb : b < wr.heap.size) (hr : row ≠ some b) : w2.cell? ⟨b, o, none⟩ = wr.cell? ⟨b, o, none⟩ :=
  World.cell?_of_block (w := wr) (a := ⟨b, o, none⟩) ((h.block b (by simp; omega) (fun e => hr e.symm)).trans (Below.heap_alloc _ _ _ hb))
theorem kept2f {wr w2 : World} {u : Obj} {row : Option Nat} (h : (wr.alloc u).grownBy w2 row) {b o : Nat} (hb : b < wr.heap.size) (hr : row ≠ some b) : w2.frozen? ⟨b, o, none⟩ = wr.frozen? ⟨b, o, none⟩ :=
  World.frozen?_of_block (w := wr) (a := ⟨b, o, none⟩) ((h.block b (by simp; omega) (fun e => hr e.symm)).trans (Below.heap_alloc _ _ _ hb))
set_option maxRecDepth 100000 in
set_option maxHeartbeats 4000000 in
theorem ref_New (perm : Int) (n : Nat) (h1 : 0 ≤ perm) (h2 : perm ≤ 7) (h3 : n ≤ 255) (w : World) :
    Calls Tryd.prog 22 #[.int .i64 perm, .int .i64 n] w fun e w' => ∃ v, e = .returned (.tuple #[.agg #[.int .i64 perm, v], .int .i64 0]) ∧ Sl recK w' (New w w') v (newRecs perm n) ∧ Below w.heap.size w w' := by
  have d1 : decide (perm < 0) = false := by simp; omega
  have d2 : decide (7 < perm) = false := by simp; omega
  have d3 : decide ((n : Int) < 0) = false := by simp
  have d4 : decide (255 < (n : Int)) = false := by simp; omega
  obtain ⟨i0, hi, hz0, hz1, hz2⟩ := info_parts info_rec
  have H := Lib.hid (fun W : World => ref_Header perm n W)
  have h1' := Lib.hid h1
  have h2' := Lib.hid h2
  clear h1 h2
  go_enter Tryd.func22, Tryd.ntmps22
  go_wp2_with (go_at_call 39; refine (H.out _).mono ?_; rintro e w' ⟨rfl, hb⟩; obtain ⟨x, rfl, hx⟩ := ext_intro hb; clear hb)
  have hxs : w.heap.size + 1 ≤ (grownTo _ x).heap.size := by simpa using hx
  obtain ⟨B, hB⟩ : ∃ B, (grownTo _ x).heap.size = B := ⟨_, rfl⟩
  rw [hB] at hxs
  have HH := Lib.hid h3
  rw [hB]
  go_loopw [7] (fun i wr => ∃ (k g c : Nat) (v : Value), v = .slice (some ⟨g, 0, none⟩) (k + 1) c ∧ k ≤ n ∧ i = .int .i64 k ∧ wr.cell? ⟨B + 1, 0, none⟩ = some (.int .i64 perm) ∧ wr.cell? ⟨B + 1, 1, none⟩ = some v ∧ wr.frozen? ⟨B + 1, 1, none⟩ = false ∧
      (wr.cell? ⟨w.heap.size, 0, none⟩ = some (.int .i64 0) ∧ wr.cell? ⟨w.heap.size, 1, none⟩ = some (.slice none 0 0) ∧ (∀ o, wr.frozen? ⟨w.heap.size, o, none⟩ = false)) ∧
      wr.ownsRow (w.heap.size + 1) 25 4 v (k + 1) ((hdr perm n :: List.replicate k Rec.zero).flatMap recC) ∧ g ≠ B + 1 ∧ Below w.heap.size w wr ∧ B + 2 ≤ wr.heap.size)
    (fun i _ => n - (intOf i).toNat)
  case atStart =>
    refine ⟨0, B, 1, _, rfl, Nat.zero_le _, rfl, ?_, ?_, ?_, ⟨?_, ?_, fun o => ?_⟩, ?_, by omega, by (repeat' (first | (with_reducible exact Below.refl _ _) | (with_reducible refine below_ext ?_ ?_ _) | (with_reducible refine below_al ?_ ?_ _) | (with_reducible refine Below.drew ?_) | (with_reducible refine Below.setCell ?_ ?_ _) | (with_reducible assumption) | (first | (with_reducible exact Nat.le_refl _) | omega | (simp only [World.size_alloc, World.size_setCell, World.size_drew] at *; omega) | (simp at *; omega) | (simp; done)))), ?_⟩
    · simp [go_sem, hB]
    · simp [go_sem, hB]
    · simp [go_sem, hB]
    · simp [go_sem, hB, show w.heap.size < B by omega]
    · simp [go_sem, hB, show w.heap.size < B by omega]
    · simp [go_sem, hB, show w.heap.size < B by omega, show w.heap.size ≠ B by omega, show w.heap.size ≠ B + 1 by omega]
    · rw [← hB]
      exact (World.ownsRow_lit _ #[.int .u8 (hdr perm n).a, .int .u8 (hdr perm n).b, .int .u8 (hdr perm n).c, .int .u8 (hdr perm n).d] 1 (by rw [hB]; omega) (by simp [maxLen]) (by simp)).alloc _
    · simp [hB]
  case round =>
    obtain ⟨k, g, c, v, hv, hk, rfl, b0, b1, bf, ⟨r0, r1, rf⟩, hown, hg, hbel, hsz⟩ := hrel
    have A1 := Lib.hid hown
    have A2 := Lib.hid hbel
    have A3 := Lib.hid hg
    have hgl := (hown.lt g (by rw [hv]; rfl))
    have HV := Lib.hid hv
    have V0 := Lib.hid (show v.ownBlock ≠ some w.heap.size by rw [hv]; intro e; simp [Value.ownBlock] at e; omega)
    have V1 := Lib.hid (show v.ownBlock ≠ some (B + 1) by rw [hv]; intro e; simp [Value.ownBlock] at e; exact hg e)
    have hn1 : w.heap.size < wr.heap.size := by omega
    have hn2 : B + 1 < wr.heap.size := by omega
    clear hown hbel hg hv
    by_cases hlt : k < n
    · go_wp2_with (at_builtin; go_loud (refine wpList_append_lies _ rfl _ _ 26 rfl (w.heap.size + 1) 25 i0 (.agg #[.int .u8 0, .int .u8 0, .int .u8 0, .int .u8 0]) 4 4 Tryd.underlying26 hi hz0 hz1 hz2 rfl (by decide) _ (k + 1) _ rfl (A1.out.alloc _) ⟨wr.heap.size, 0, none⟩ 1 1 [.int .u8 0, .int .u8 0, .int .u8 0, .int .u8 0] rfl rfl (cells_new _ _ _) (by intro u hu; simp at hu; rw [hu]; rfl) (by decide) (by unfold maxLen; omega) (by omega) (by simp; omega) _ rfl ?_; intro g3 cap3 w2 hown3 hgrow hlies hlt3; have k0 := fun o => kept2 hgrow (b := w.heap.size) (o := o) hn1 V0.out; have k1 := fun o => kept2f hgrow (b := w.heap.size) (o := o) hn1 V0.out; have k2 := fun o => kept2 hgrow (b := B + 1) (o := o) hn2 V1.out; have k3 := fun o => kept2f hgrow (b := B + 1) (o := o) hn2 V1.out; have C1 := Lib.hid hown3; have C2 := Lib.hid hgrow; have C3 := Lib.hid hlies; have C4 := Lib.hid hlt3; clear hown3 hgrow hlies hlt3))
      go_roundw
      case rel =>
        have hs2 : wr.heap.size + 1 ≤ w2.heap.size := by have := C2.out.size; simpa using this
        have hb3 : B + 1 ≠ g3 := by
          rcases C3.out with e | e
          · intro e2; subst e2; exact V1.out e
          · simp at e; omega
        refine ⟨k + 1, g3, cap3, _, rfl, by omega, by simp, by simp [go_sem, k2, b0], by simp [go_sem, k2, b1], by simp [go_sem, k3, bf], ⟨by simp [go_sem, k0, r0], by simp [go_sem, k0, r1], fun o => by simp [go_sem, k1, rf]⟩, ?_, fun e => hb3 e.symm, ?_, by simp; omega⟩
        · have e1 : (hdr perm n :: List.replicate k Rec.zero).flatMap recC ++ [.int .u8 0, .int .u8 0, .int .u8 0, .int .u8 0] = (hdr perm n :: List.replicate (k + 1) Rec.zero).flatMap recC := by
            rw [List.replicate_succ', ← List.cons_append, List.flatMap_append]
            rfl
          rw [← e1]
          obtain ⟨q1, q2⟩ := C1.out
          refine ⟨q1, ?_⟩
          rcases q2 with q2 | ⟨g', cap, cur, q2, q3, q4, q5, q6, q7, q8⟩
          · exact .inl q2
          · refine .inr ⟨g', cap, cur, q2, q3, ?_, q5, q6, q7, q8⟩
            have : g' = g3 := by cases q2; rfl
            subst this
            rw [Below.heap_setCell _ _ _ _ (by simp; omega)]
            exact q4
        · have b3 : Below w.heap.size w (wr.alloc (.cells #[.int .u8 0, .int .u8 0, .int .u8 0, .int .u8 0] 25)) := A2.out.alloc (by omega) _
          exact (b3.grown C2.out b3.size (fun j e => by have := A1.out.lt j e; omega)).setCell (p := ⟨B + 1, 1, none⟩) (by show _ ≤ B + 1; omega) _
      case measure => simp [intOf]; omega
    · obtain rfl : k = n := by omega
      have hv' := HV.out
      subst hv'
      have hF : Sl recK wr (fun b => w.heap.size + 1 ≤ b ∧ b < wr.heap.size) (.slice (some ⟨g, 0, none⟩) (k + 1) c) (newRecs perm k) := by
        refine Sl.of_owns A1.out (Kd.L_flat.2 rfl) (by simp [newRecs]) (by show _ * 4 ≤ big; unfold big; omega) ?_
        intro b hb
        simp only [Value.ownBlock, Option.some.injEq] at hb
        subst hb
        exact ⟨by omega, hgl.2⟩
      have hF' := Lib.hid hF
      clear hF
      go_wp2
      (try simp only [Exit.inBlock, Exit.then]); refine bodyPost_ret (by simp [results, Tryd.results22, go_sem, r0, r1, rf, hn1]; try rfl) rfl ?_
      refine ⟨_, rfl, ?_, ?_⟩
      · refine Sl.mono (Sl.keep hF'.out fun b hb => ?_) (fun b hb => ⟨by omega, by simp; omega⟩)
        (repeat rw [Below.heap_setCell _ _ _ _ (by simp; omega)])
      · exact (A2.out.setCell (p := ⟨w.heap.size, 0, none⟩) (Nat.le_refl _) _).setCell (p := ⟨w.heap.size, 1, none⟩) (Nat.le_refl _) _
end Go.Proofs.YtmoebgkfmkdkpaaDoor
