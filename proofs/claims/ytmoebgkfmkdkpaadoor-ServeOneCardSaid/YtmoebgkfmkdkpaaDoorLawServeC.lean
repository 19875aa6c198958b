/- Law 16 (serve): ServeOne: what it computes. -/
import Derived.Test.YtmoebgkfmkdkpaaDoorLawServeB
import Derived.Test.YtmoebgkfmkdkpaaDoorPureB
namespace Go.Proofs.YtmoebgkfmkdkpaaDoor
open Go.RowKit Go.Proofs
set_option linter.unusedSimpArgs false
set_option linter.unusedVariables false

theorem But.mono {F G : Nat → Prop} {w w' : World} (h : But F w w') (hFG : ∀ b, F b → G b) : But G w w' := ⟨h.os, h.tape, h.output, h.size, fun k hk hn => h.block k hk (fun hf => hn (hFG k hf))⟩

set_option maxRecDepth 100000 in
set_option maxHeartbeats 16000000 in
theorem law16_ServeOne {w : World} (hl : Lib0 w) {F : Nat → Prop} (hF : OldK w F) (l : List (Int × File)) (v : Value) (hv : Sl namedK w F v l) (hw : ∀ x ∈ l, x.2.wf) (name op file rec : Int) (vr : Rec) (hvr : vr.wf) (at_ y : Int) (hat : byte at_) (hy : byte y) :
    Calls Tryd.prog 4 #[v, .int .i64 name, addrV op file rec, recV vr, .int .u8 at_, .int .u8 y] w fun e w' => e = .returned (.bool true) ∧ Below w.heap.size w w' := by
  have HLAW := Lib.hid (serveOne_law (stOf_ok hw) name op file rec hvr (at_ % 14) y (by unfold byte at hat; omega) hy)
  have HV := Lib.hid hv
  have HW := Lib.hid hw
  have HF := Lib.hid hF
  have HL := Lib.hid hl
  have HVR := Lib.hid hvr
  have HY := Lib.hid hy
  obtain ⟨at0, at1⟩ := hat
  obtain ⟨y0, y1⟩ := hy
  clear hv hw hF hl hvr
  go_enter Tryd.func4, Tryd.ntmps4
  go_wp2_with (first | (go_at_call 14; refine Hid.out ?_) | (go_at_call 12; refine Hid.out ?_) | (go_at_call 15; refine Hid.out ?_) | (go_at_call 16; refine Hid.out ?_) | (go_at_call 17; refine Hid.out ?_))
  obtain ⟨W0, hW0⟩ : ∃ W0 : World, (w.alloc (.cells #[.int .i64 op, .int .i64 file, .int .i64 rec] 23)).alloc (.cells #[.int .u8 vr.a, .int .u8 vr.b, .int .u8 vr.c, .int .u8 vr.d] 25) = W0 := ⟨_, rfl⟩
  have HB0 := Lib.hid (show Below w.heap.size w W0 by rw [← hW0]; (repeat' (first | (with_reducible exact Below.refl _ _) | (with_reducible refine below_ext ?_ ?_ _) | (with_reducible refine below_al ?_ ?_ _) | (with_reducible refine Below.drew ?_) | (with_reducible refine Below.setCell ?_ ?_ _) | (with_reducible assumption) | (first | (with_reducible exact Nat.le_refl _) | omega | (simp only [World.size_alloc, World.size_setCell, World.size_drew] at *; omega) | (simp at *; omega) | (simp; done)))))
  have a0 : W0.cell? ⟨w.heap.size, 0, none⟩ = some (.int .i64 op) := by rw [← hW0]; simp [go_sem]
  have a1 : W0.cell? ⟨w.heap.size, 1, none⟩ = some (.int .i64 file) := by rw [← hW0]; simp [go_sem]
  have a2 : W0.cell? ⟨w.heap.size, 2, none⟩ = some (.int .i64 rec) := by rw [← hW0]; simp [go_sem]
  have R0 := Lib.hid (show Bytes4 W0 (w.heap.size + 1) vr by rw [← hW0]; constructor <;> simp [go_sem])
  have s0 : w.heap.size + 2 ≤ W0.heap.size := by rw [← hW0]; simp
  rw [hW0]
  clear hW0
  have hF0 : OldK W0 F := fun b hb => Nat.lt_of_lt_of_le (HF.out b hb) HB0.out.size
  refine Lib.hid ((law16_build hF0 l v (HV.out.keep fun b hb => HB0.out.block b (HF.out b hb)) HW.out).mono ?_)
  rintro e W1 ⟨p, q, rfl, FS1, FR1, hS1, -, hn1, -, -, -, hb1⟩
  have HS1 := Lib.hid hS1
  have HN1 := Lib.hid hn1
  have HB1 := Lib.hid (HB0.out.trans (hb1.mono HB0.out.size))
  have b0 := (hb1.cell (p := ⟨w.heap.size, 0, none⟩) (show w.heap.size < _ by omega)).trans a0
  have b1 := (hb1.cell (p := ⟨w.heap.size, 1, none⟩) (show w.heap.size < _ by omega)).trans a1
  have b2 := (hb1.cell (p := ⟨w.heap.size, 2, none⟩) (show w.heap.size < _ by omega)).trans a2
  have R1 := Lib.hid (R0.out.up hb1)
  have s1 := hb1.size
  clear hS1 hn1 hb1 a0 a1 a2 hF0
  go_wp2_with (first | (go_at_call 14; refine Hid.out ?_) | (go_at_call 12; refine Hid.out ?_) | (go_at_call 15; refine Hid.out ?_) | (go_at_call 16; refine Hid.out ?_) | (go_at_call 17; refine Hid.out ?_))
  have hF1 : OldK W1 F := fun b hb => Nat.lt_of_lt_of_le (HF.out b hb) HB1.out.size
  refine Lib.hid ((law16_build hF1 l v (HV.out.keep fun b hb => HB1.out.block b (HF.out b hb)) HW.out).mono ?_)
  rintro e W2 ⟨p2, q2, rfl, FS2, FR2, hS2, -, hn2, -, -, -, hb2⟩
  have HS2 := Lib.hid hS2
  have HN2 := Lib.hid hn2
  have HB2 := Lib.hid (HB1.out.trans (hb2.mono HB1.out.size))
  have HS12 := Lib.hid (HS1.out.up hb2)
  have c0 := (hb2.cell (p := ⟨w.heap.size, 0, none⟩) (show w.heap.size < _ by omega)).trans b0
  have c1 := (hb2.cell (p := ⟨w.heap.size, 1, none⟩) (show w.heap.size < _ by omega)).trans b1
  have c2 := (hb2.cell (p := ⟨w.heap.size, 2, none⟩) (show w.heap.size < _ by omega)).trans b2
  have R2 := Lib.hid (R1.out.up hb2)
  have s2 := hb2.size
  clear hS2 hn2 hb2 b0 b1 b2 hF1
  obtain ⟨s, hse⟩ : ∃ s, stOf l = s := ⟨_, rfl⟩
  rw [hse] at HLAW HS1 HS2 HS12
  clear hse
  go_wp2_with (first | (go_at_call 14; refine Hid.out ?_) | (go_at_call 12; refine Hid.out ?_) | (go_at_call 15; refine Hid.out ?_) | (go_at_call 16; refine Hid.out ?_) | (go_at_call 17; refine Hid.out ?_))
  refine Lib.hid ((ifs_Files HS12.out).mono ?_)
  rintro e W3 ⟨v3, rfl, hv3, hb3⟩
  have HV3 := Lib.hid hv3
  have HB3 := Lib.hid (HB2.out.trans (hb3.mono HB2.out.size))
  have HS13 := Lib.hid (HS12.out.up hb3)
  have HS23 := Lib.hid (HS2.out.up hb3)
  have d0 := (hb3.cell (p := ⟨w.heap.size, 0, none⟩) (show w.heap.size < _ by omega)).trans c0
  have d1 := (hb3.cell (p := ⟨w.heap.size, 1, none⟩) (show w.heap.size < _ by omega)).trans c1
  have d2 := (hb3.cell (p := ⟨w.heap.size, 2, none⟩) (show w.heap.size < _ by omega)).trans c2
  have R3 := Lib.hid (R2.out.up hb3)
  have s3 := hb3.size
  clear hv3 hb3 c0 c1 c2
  obtain ⟨r0, r1, r2, r3, rf, _⟩ := R3.out
  have im := intMap_empty
  have ka := keysApart_empty
  go_wp2_with (first | (go_at_call 14; refine Hid.out ?_) | (go_at_call 12; refine Hid.out ?_) | (go_at_call 15; refine Hid.out ?_) | (go_at_call 16; refine Hid.out ?_) | (go_at_call 17; refine Hid.out ?_))
  clear r0 r1 r2 r3 rf im ka
  obtain ⟨k, hk⟩ : ∃ k, at_ % 14 = k := ⟨_, rfl⟩
  rw [hk] at HLAW ⊢
  clear hk
  obtain ⟨P, hP⟩ : ∃ P, putMap (W3.alloc (.map #[] 0)) W3.heap.size k (.int .u8 y) = P := ⟨_, rfl⟩
  have hpb : But (fun b => b = W3.heap.size) W3 P := by rw [← hP]; exact ((But.refl (fun b => b = W3.heap.size) W3).al _).putMap (.inl rfl) _ _
  have hPB : Below W3.heap.size W3 P := hpb.below (Nat.le_refl _) (fun b e => by omega)
  have hT : TurnAt P FS1 (.map (some W3.heap.size)) (one k y) := by rw [← hP]; exact turn_one W3 FS1 (fun h => by have := (HN1.out _ h).2; omega) k y HY.out
  have sP : W3.heap.size + 1 ≤ P.heap.size := by rw [← hP]; simp [go_sem]
  rw [hP]
  clear hP hpb
  have HBP := Lib.hid (HB3.out.trans (hPB.mono HB3.out.size))
  have HSP1 := Lib.hid (HS13.out.up hPB)
  have HSP2 := Lib.hid (HS23.out.up hPB)
  have HVB := Lib.hid (show But (fun b => b < W2.heap.size) W3 P from But.of_below hPB)
  have e0 := (hPB.cell (p := ⟨w.heap.size, 0, none⟩) (show w.heap.size < _ by omega)).trans d0
  have e1 := (hPB.cell (p := ⟨w.heap.size, 1, none⟩) (show w.heap.size < _ by omega)).trans d1
  have e2 := (hPB.cell (p := ⟨w.heap.size, 2, none⟩) (show w.heap.size < _ by omega)).trans d2
  have RP := Lib.hid (R3.out.up hPB)
  have hf1 : ∀ b, FS1 b → w.heap.size ≤ b := fun b hb => by have := (HN1.out b hb).1; omega
  refine Lib.hid ((serve_Try (HL.out.up HBP.out) (apart0_of HL.out hf1) HSP1.out name name op file rec vr HVR.out _ (one k y) hT).mono ?_)
  rintro e W4 ⟨rfl, F4, hS4, hG4, hB4⟩
  have h4 := stepBut' HBP.out hf1 hG4 hB4
  generalize tryB s name name op file rec vr (one k y) = r at HLAW hS4 ⊢
  obtain ⟨t1, ra, ea⟩ := r
  dsimp only at HLAW hS4 ⊢
  have HS4 := Lib.hid hS4
  have HB4 := Lib.hid h4.1
  have HF4 := Lib.hid h4.2
  have HG4 := Lib.hid hG4
  have HS42 := Lib.hid (HSP2.out.apart hB4 (fun b h2 h1 => by have := (HN1.out b h1).2; have := (HN2.out b h2).1; omega))
  have HVB4 := Lib.hid (HVB.out.trans (hB4.mono (G := fun b => b < W2.heap.size) (fun b h1 => by have := (HN1.out b h1).2; omega)) (fun _ _ h => h))
  have na : ¬ FS1 w.heap.size := fun h => by have := (HN1.out _ h).1; omega
  have nb : ¬ FS1 (w.heap.size + 1) := fun h => by have := (HN1.out _ h).1; omega
  have f0 := (hB4.cell (b := w.heap.size) (o := 0) (by omega) na).trans e0
  have f1 := (hB4.cell (b := w.heap.size) (o := 1) (by omega) na).trans e1
  have f2 := (hB4.cell (b := w.heap.size) (o := 2) (by omega) na).trans e2
  have R4 := Lib.hid (RP.out.but hB4 nb)
  have s4 := hB4.size
  clear hS4 hB4 h4 hG4 e0 e1 e2 d0 d1 d2 hT hPB na nb hf1
  obtain ⟨r0, r1, r2, r3, rf, _⟩ := R4.out
  go_wp2_with (first | (go_at_call 14; refine Hid.out ?_) | (go_at_call 12; refine Hid.out ?_) | (go_at_call 15; refine Hid.out ?_) | (go_at_call 16; refine Hid.out ?_) | (go_at_call 17; refine Hid.out ?_))
  clear r0 r1 r2 r3 rf
  have hf2 : ∀ b, FS2 b → w.heap.size ≤ b := fun b hb => by have := (HN2.out b hb).1; omega
  have B4 := Lib.hid (Bytes4.new W4 ra 25)
  refine Lib.hid ((serve_Try ((HL.out.up HB4.out).al _) (apart0_of HL.out hf2) (HS42.out.al _) name name op file rec vr HVR.out _ (fun _ => 0) (.inl ⟨rfl, fun _ => rfl⟩)).mono ?_)
  rintro e W5 ⟨rfl, F5, hS5, hG5, hB5⟩
  have h5 := stepBut' (HB4.out.alloc HB4.out.size _) hf2 hG5 hB5
  generalize tryB s name name op file rec vr (fun _ => 0) = r at HLAW hS5 ⊢
  obtain ⟨t2, rb, eb⟩ := r
  dsimp only at HLAW hS5 ⊢
  have HS5 := Lib.hid hS5
  have HB5 := Lib.hid h5.1
  have hal : Below W4.heap.size W4 (W4.alloc (.cells #[.int .u8 ra.a, .int .u8 ra.b, .int .u8 ra.c, .int .u8 ra.d] 25)) := by (repeat' (first | (with_reducible exact Below.refl _ _) | (with_reducible refine below_ext ?_ ?_ _) | (with_reducible refine below_al ?_ ?_ _) | (with_reducible refine Below.drew ?_) | (with_reducible refine Below.setCell ?_ ?_ _) | (with_reducible assumption) | (first | (with_reducible exact Nat.le_refl _) | omega | (simp only [World.size_alloc, World.size_setCell, World.size_drew] at *; omega) | (simp at *; omega) | (simp; done))))
  have HS51 := Lib.hid (((HS4.out.up hal).apart hB5 (fun b h4 h2 => by
    have q2 := HN2.out b h2
    rcases HG4.out b h4 with h1 | h1
    · have := (HN1.out b h1).2; have := q2.1; omega
    · have := q2.2; omega)))
  have HVB5 := Lib.hid ((HVB4.out.trans (But.of_below (F := fun b => b < W2.heap.size) hal) (fun _ _ h => h)).trans (hB5.mono (G := fun b => b < W2.heap.size) (fun b h2 => (HN2.out b h2).2)) (fun _ _ h => h))
  have B5' := Lib.hid (B4.out.but hB5 (fun h => by have := (HN2.out _ h).2; omega))
  have s5 : W4.heap.size + 1 ≤ W5.heap.size := by have := hB5.size; simpa using this
  clear hS5 hB5 h5 hG5 hal f0 f1 f2 hf2
  go_wp2_with (first | (go_at_call 14; refine Hid.out ?_) | (go_at_call 12; refine Hid.out ?_) | (go_at_call 15; refine Hid.out ?_) | (go_at_call 16; refine Hid.out ?_) | (go_at_call 17; refine Hid.out ?_))
  have B5b := Lib.hid (Bytes4.new W5 rb 25)
  refine Lib.hid ((ifs_Files (HS51.out.al _)).mono ?_)
  rintro e W6 ⟨v6, rfl, hv6, hb6⟩
  have HV6 := Lib.hid hv6
  have HB6 := Lib.hid ((HB5.out.alloc HB5.out.size _).trans (hb6.mono (by have := HB5.out.size; simp; omega)))
  have HS6 := Lib.hid ((HS5.out.al _).up hb6)
  have HVB6 := Lib.hid ((HVB5.out.al _).trans (But.of_below (F := fun b => b < W2.heap.size) hb6) (fun _ _ h => h))
  have B6a := Lib.hid ((B5'.out.al _).up hb6)
  have B6b := Lib.hid (B5b.out.up hb6)
  have s6 : W5.heap.size + 1 ≤ W6.heap.size := by have := hb6.size; simpa using this
  clear hv6 hb6
  go_wp2_with (first | (go_at_call 14; refine Hid.out ?_) | (go_at_call 12; refine Hid.out ?_) | (go_at_call 15; refine Hid.out ?_) | (go_at_call 16; refine Hid.out ?_) | (go_at_call 17; refine Hid.out ?_))
  refine Lib.hid ((ifs_Files HS6.out).mono ?_)
  rintro e W7 ⟨v7, rfl, hv7, hb7⟩
  have HB7 := Lib.hid (HB6.out.trans (hb7.mono HB6.out.size))
  have HVB7 := HVB6.out.trans (But.of_below (F := fun b => b < W2.heap.size) hb7) (fun _ _ h => h)
  have hwas : SlO namedK W7 v3 s.files := (HV3.out.keep fun b hb => HVB7.block b hb.2 (by have := hb.1; omega)).mono fun b hb => Nat.lt_of_lt_of_le hb.2 HVB7.size
  have hdone : SlO namedK W7 v6 t1.files := SlO.up HV6.out.old hb7
  have hshould : SlO namedK W7 v7 t2.files := hv7.old
  have B7a := B6a.out.up hb7
  have B7b := B6b.out.up hb7
  have s7 := hb7.size
  obtain ⟨x0, x1, x2, x3, _, xl⟩ := B7a
  obtain ⟨z0, z1, z2, z3, _, zl⟩ := B7b
  have HDS := Lib.hid (fun (W : World) (hW : Below W7.heap.size W7 W) => ref10_Same _ _ v6 v7 W (hdone.up hW) (hshould.up hW))
  have HDW := Lib.hid (fun (W : World) (hW : Below W7.heap.size W7 W) => ref10_Same _ _ v6 v3 W (hdone.up hW) (hwas.up hW))
  have HAW := Lib.hid (fun (W : World) (hW : Below W7.heap.size W7 W) => law16_awake W (HL.out.up (HB7.out.trans (hW.mono HB7.out.size))))
  clear hv7 hb7 HVB7 hwas hdone hshould
  obtain ⟨l1, l2, l3, l4⟩ := HLAW.out
  have HB7' := HB7.out
  have hsz7 := HB7'.size
  have fin : ∀ W, Below W7.heap.size W7 W → Below w.heap.size w W := fun W hW => HB7.out.trans (hW.mono HB7.out.size)
  have HFIN := Lib.hid fin
  clear fin HB7'
  have hdw : sameL t1.files s.files = true ∨ (sameL t1.files s.files = false ∧ sameL t1.files t2.files = true) := by
    cases hh : sameL t1.files s.files with
    | true => exact .inl rfl
    | false =>
      refine .inr ⟨rfl, ?_⟩
      rw [sameL_iff]
      rcases l2 with h | h
      · rw [h, sameL_self] at hh; cases hh
      · exact h
  by_cases ha : ea = 0
  · obtain ⟨l5, l6, l7⟩ := l1 ha
    subst ha l5 l6
    have hds : sameL t1.files t2.files = true := by rw [l7]; exact sameL_self _
    rw [hds] at HDS
    clear l1 l2 l3 l4 l7 HLAW hds
    rcases hdw with hdw | ⟨hdw, _⟩
    · rw [hdw] at HDW
      clear hdw
      cases hy0 : (y == 0)
      all_goals
        have hy1 : (y != 0) = !(y == 0) := rfl
        rw [hy0] at hy1
        go_wp2_with (go_at_call 16; refine Hid.out ?_)
        refine Lib.hid ((HDS.out W7 (Below.refl W7.heap.size W7)).mono ?_)
        rintro e W8 ⟨rfl, hb⟩
        have Z8 := Lib.hid hb
        clear hb
        clear x0 x1 x2 x3 z0 z1 z2 z3 xl zl
        go_wp2_with (go_at_call 17; refine Hid.out ?_)
        refine Lib.hid ((HAW.out W8 (Z8.out)).mono ?_)
        rintro e W9 ⟨rfl, hb⟩
        have Z9 := Lib.hid (Below.trans ((Z8.out)) (hb.mono (by have := hb.size; have := Below.size ((Z8.out)); omega)))
        clear hb
        go_wp2_with (go_at_call 16; refine Hid.out ?_)
        refine Lib.hid ((HDW.out W9 (Z9.out)).mono ?_)
        rintro e W10 ⟨rfl, hb⟩
        have Z10 := Lib.hid (Below.trans ((Z9.out)) (hb.mono (by have := hb.size; have := Below.size ((Z9.out)); omega)))
        clear hb
        go_wp2
        all_goals (go_ret; exact ⟨rfl, HFIN.out _ Z10.out⟩)
    · rw [hdw] at HDW
      clear hdw
      cases hy0 : (y == 0)
      all_goals
        have hy1 : (y != 0) = !(y == 0) := rfl
        rw [hy0] at hy1
        go_wp2_with (go_at_call 16; refine Hid.out ?_)
        refine Lib.hid ((HDS.out W7 (Below.refl W7.heap.size W7)).mono ?_)
        rintro e W8 ⟨rfl, hb⟩
        have Z8 := Lib.hid hb
        clear hb
        clear x0 x1 x2 x3 z0 z1 z2 z3 xl zl
        go_wp2_with (go_at_call 17; refine Hid.out ?_)
        refine Lib.hid ((HAW.out W8 (Z8.out)).mono ?_)
        rintro e W9 ⟨rfl, hb⟩
        have Z9 := Lib.hid (Below.trans ((Z8.out)) (hb.mono (by have := hb.size; have := Below.size ((Z8.out)); omega)))
        clear hb
        go_wp2_with (go_at_call 16; refine Hid.out ?_)
        refine Lib.hid ((HDW.out W9 (Z9.out)).mono ?_)
        rintro e W10 ⟨rfl, hb⟩
        have Z10 := Lib.hid (Below.trans ((Z9.out)) (hb.mono (by have := hb.size; have := Below.size ((Z9.out)); omega)))
        clear hb
        go_wp2_with (go_at_call 16; refine Hid.out ?_)
        refine Lib.hid ((HDS.out W10 (Z10.out)).mono ?_)
        rintro e W11 ⟨rfl, hb⟩
        have Z11 := Lib.hid (Below.trans ((Z10.out)) (hb.mono (by have := hb.size; have := Below.size ((Z10.out)); omega)))
        clear hb
        go_wp2
        all_goals (go_ret; exact ⟨rfl, HFIN.out _ Z11.out⟩)
  · have ha1 : (ea == 0) = false := beq_eq_false_iff_ne.2 ha
    have ha2 : (ea != 0) = true := by simpa using ha
    have hc : ((eb == 0) = true ∧ y ≠ 0) ∨ ((eb == 0) = false ∧ y ≠ 0) ∨ ((eb == 0) = false ∧ (ea == eb) = true ∧ y = 0) := by
      rcases l4 with h | h
      · cases hh : (eb == 0)
        · exact .inr (.inl ⟨rfl, h⟩)
        · exact .inl ⟨rfl, h⟩
      · by_cases h0 : y = 0
        · exact .inr (.inr ⟨by rw [← h]; exact ha1, by simpa using h, h0⟩)
        · cases hh : (eb == 0)
          · exact .inr (.inl ⟨rfl, h0⟩)
          · exact .inl ⟨rfl, h0⟩
    clear l1 l2 l3 l4 HLAW ha
    rcases hdw with hdw | ⟨hdw, hds⟩
    · rw [hdw] at HDW
      clear hdw
      rcases hc with ⟨hc1, hc2⟩ | ⟨hc1, hc2⟩ | ⟨hc1, hc3, hc2⟩
      · have hy1 : (y != 0) = true := by simpa using hc2
        have hy0 : (y == 0) = false := beq_eq_false_iff_ne.2 hc2
        clear hc2
        clear x0 x1 x2 x3 z0 z1 z2 z3 xl zl
        go_wp2_with (go_at_call 17; refine Hid.out ?_)
        refine Lib.hid ((HAW.out W7 (Below.refl W7.heap.size W7)).mono ?_)
        rintro e W9 ⟨rfl, hb⟩
        have Z9 := Lib.hid hb
        clear hb
        go_wp2_with (go_at_call 16; refine Hid.out ?_)
        refine Lib.hid ((HDW.out W9 (Z9.out)).mono ?_)
        rintro e W10 ⟨rfl, hb⟩
        have Z10 := Lib.hid (Below.trans ((Z9.out)) (hb.mono (by have := hb.size; have := Below.size ((Z9.out)); omega)))
        clear hb
        go_wp2
        all_goals (go_ret; exact ⟨rfl, HFIN.out _ Z10.out⟩)
      · have hy1 : (y != 0) = true := by simpa using hc2
        have hy0 : (y == 0) = false := beq_eq_false_iff_ne.2 hc2
        clear hc2
        clear x0 x1 x2 x3 z0 z1 z2 z3 xl zl
        go_wp2_with (go_at_call 17; refine Hid.out ?_)
        refine Lib.hid ((HAW.out W7 (Below.refl W7.heap.size W7)).mono ?_)
        rintro e W9 ⟨rfl, hb⟩
        have Z9 := Lib.hid hb
        clear hb
        go_wp2_with (go_at_call 16; refine Hid.out ?_)
        refine Lib.hid ((HDW.out W9 (Z9.out)).mono ?_)
        rintro e W10 ⟨rfl, hb⟩
        have Z10 := Lib.hid (Below.trans ((Z9.out)) (hb.mono (by have := hb.size; have := Below.size ((Z9.out)); omega)))
        clear hb
        go_wp2
        all_goals (go_ret; exact ⟨rfl, HFIN.out _ Z10.out⟩)
      · subst hc2
        clear x0 x1 x2 x3 z0 z1 z2 z3 xl zl
        go_wp2_with (go_at_call 17; refine Hid.out ?_)
        refine Lib.hid ((HAW.out W7 (Below.refl W7.heap.size W7)).mono ?_)
        rintro e W9 ⟨rfl, hb⟩
        have Z9 := Lib.hid hb
        clear hb
        go_wp2_with (go_at_call 16; refine Hid.out ?_)
        refine Lib.hid ((HDW.out W9 (Z9.out)).mono ?_)
        rintro e W10 ⟨rfl, hb⟩
        have Z10 := Lib.hid (Below.trans ((Z9.out)) (hb.mono (by have := hb.size; have := Below.size ((Z9.out)); omega)))
        clear hb
        go_wp2
        all_goals (go_ret; exact ⟨rfl, HFIN.out _ Z10.out⟩)
    · rw [hdw] at HDW
      rw [hds] at HDS
      clear hdw hds
      rcases hc with ⟨hc1, hc2⟩ | ⟨hc1, hc2⟩ | ⟨hc1, hc3, hc2⟩
      · have hy1 : (y != 0) = true := by simpa using hc2
        have hy0 : (y == 0) = false := beq_eq_false_iff_ne.2 hc2
        clear hc2
        clear x0 x1 x2 x3 z0 z1 z2 z3 xl zl
        go_wp2_with (go_at_call 17; refine Hid.out ?_)
        refine Lib.hid ((HAW.out W7 (Below.refl W7.heap.size W7)).mono ?_)
        rintro e W9 ⟨rfl, hb⟩
        have Z9 := Lib.hid hb
        clear hb
        go_wp2_with (go_at_call 16; refine Hid.out ?_)
        refine Lib.hid ((HDW.out W9 (Z9.out)).mono ?_)
        rintro e W10 ⟨rfl, hb⟩
        have Z10 := Lib.hid (Below.trans ((Z9.out)) (hb.mono (by have := hb.size; have := Below.size ((Z9.out)); omega)))
        clear hb
        go_wp2_with (go_at_call 16; refine Hid.out ?_)
        refine Lib.hid ((HDS.out W10 (Z10.out)).mono ?_)
        rintro e W11 ⟨rfl, hb⟩
        have Z11 := Lib.hid (Below.trans ((Z10.out)) (hb.mono (by have := hb.size; have := Below.size ((Z10.out)); omega)))
        clear hb
        go_wp2
        all_goals (go_ret; exact ⟨rfl, HFIN.out _ Z11.out⟩)
      · have hy1 : (y != 0) = true := by simpa using hc2
        have hy0 : (y == 0) = false := beq_eq_false_iff_ne.2 hc2
        clear hc2
        clear x0 x1 x2 x3 z0 z1 z2 z3 xl zl
        go_wp2_with (go_at_call 17; refine Hid.out ?_)
        refine Lib.hid ((HAW.out W7 (Below.refl W7.heap.size W7)).mono ?_)
        rintro e W9 ⟨rfl, hb⟩
        have Z9 := Lib.hid hb
        clear hb
        go_wp2_with (go_at_call 16; refine Hid.out ?_)
        refine Lib.hid ((HDW.out W9 (Z9.out)).mono ?_)
        rintro e W10 ⟨rfl, hb⟩
        have Z10 := Lib.hid (Below.trans ((Z9.out)) (hb.mono (by have := hb.size; have := Below.size ((Z9.out)); omega)))
        clear hb
        go_wp2_with (go_at_call 16; refine Hid.out ?_)
        refine Lib.hid ((HDS.out W10 (Z10.out)).mono ?_)
        rintro e W11 ⟨rfl, hb⟩
        have Z11 := Lib.hid (Below.trans ((Z10.out)) (hb.mono (by have := hb.size; have := Below.size ((Z10.out)); omega)))
        clear hb
        go_wp2
        all_goals (go_ret; exact ⟨rfl, HFIN.out _ Z11.out⟩)
      · subst hc2
        clear x0 x1 x2 x3 z0 z1 z2 z3 xl zl
        go_wp2_with (go_at_call 17; refine Hid.out ?_)
        refine Lib.hid ((HAW.out W7 (Below.refl W7.heap.size W7)).mono ?_)
        rintro e W9 ⟨rfl, hb⟩
        have Z9 := Lib.hid hb
        clear hb
        go_wp2_with (go_at_call 16; refine Hid.out ?_)
        refine Lib.hid ((HDW.out W9 (Z9.out)).mono ?_)
        rintro e W10 ⟨rfl, hb⟩
        have Z10 := Lib.hid (Below.trans ((Z9.out)) (hb.mono (by have := hb.size; have := Below.size ((Z9.out)); omega)))
        clear hb
        go_wp2_with (go_at_call 16; refine Hid.out ?_)
        refine Lib.hid ((HDS.out W10 (Z10.out)).mono ?_)
        rintro e W11 ⟨rfl, hb⟩
        have Z11 := Lib.hid (Below.trans ((Z10.out)) (hb.mono (by have := hb.size; have := Below.size ((Z10.out)); omega)))
        clear hb
        go_wp2
        all_goals (go_ret; exact ⟨rfl, HFIN.out _ Z11.out⟩)
end Go.Proofs.YtmoebgkfmkdkpaaDoor
