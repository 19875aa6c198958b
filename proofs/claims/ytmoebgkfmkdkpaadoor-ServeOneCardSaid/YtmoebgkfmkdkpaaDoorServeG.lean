/- serve: Try, where nothing is turned. -/
import Derived.Test.YtmoebgkfmkdkpaaDoorServeF
namespace Go.Proofs.YtmoebgkfmkdkpaaDoor
open Go.RowKit Go.Proofs
set_option linter.unusedSimpArgs false
set_option linter.unusedVariables false

set_option maxRecDepth 100000 in
set_option maxHeartbeats 8000000 in
theorem serve_Try_nil {w : World} (hl : Lib0 w) {F : Nat → Prop} (hF0 : Apart0 F) {p : Nat} {s : St} (h : StoreAt w F p s) (name to op file rec : Int) (v : Rec) (hv : v.wf) (t : Int → Int) (ht0 : ∀ i, t i = 0) (h0 : (askB to op file rec).2 = 0) :
    Calls Tryd.prog 15 #[.pointer (some ⟨p, 0, none⟩), .int .i64 name, .int .i64 to, addrV op file rec, recV v, .map none] w fun e w' =>
      e = .returned (.tuple #[recV (tryB s name to op file rec v t).2.1, .int .i64 (tryB s name to op file rec v t).2.2]) ∧ ∃ F', StoreAt w' F' p (tryB s name to op file rec v t).1 ∧ Grow F w F' ∧ But F w w' := by
  have ht : ∀ i, byte (t i) := fun i => by rw [ht0]; exact byte_0
  have H0 := Lib.hid ht0
  clear ht0
  have HA := Lib.hid (fun W : World => serve_Ask to op file rec W)
  have hA := askB_wf (name := to) (op := op) (file := file) (rec := rec)
  have HT := Lib.hid (show tryB s name to op file rec v t = _ by unfold tryB; rw [if_neg (by rw [h0]; simp)])
  rw [h0] at HA
  generalize (askB to op file rec).1 = A at HA HT hA
  have HD := Lib.hid (fun W : World => serve_Data v W)
  have HS := Lib.hid (fun (W : World) (hW : Below w.heap.size w W) => serve_Serve (hl.up hW) hF0 (h.up hW) name (turnR A t 0) ⟨x8_byte hA.1 (ht _), x8_byte hA.2.1 (ht _), x8_byte hA.2.2.1 (ht _), x8_byte hA.2.2.2 (ht _)⟩ (turn5 (dataB v) t 4) ⟨x8_byte hv.1 (ht _), x8_byte hv.2.1 (ht _), x8_byte hv.2.2.1 (ht _), x8_byte hv.2.2.2 (ht _)⟩)
  have HF := Lib.hid (show ∀ b, w.heap.size ≤ b → ¬ F b from fun b hb hF => by have := h.lt hF; omega)
  have HO := Lib.hid (fun (b : B5) (W : World) => serve_Open b W)
  clear h hl hF0 h0 hA ht
  go_enter Tryd.func15, Tryd.ntmps15
  go_wp2_with (go_at_call 29; refine Hid.out ?_)
  refine Lib.hid ((HA.out _).mono ?_)
  rintro e W1 ⟨rfl, hb⟩
  have V1 : Bytes4 W1 (w.heap.size + 1) v := Bytes4.up (by constructor <;> simp [go_sem]) hb
  have R1 : Bytes4 W1 (w.heap.size + 1 + 1) .zero := Bytes4.up (by constructor <;> simp [go_sem, Rec.zero]) hb
  have HB1 := Lib.hid (show Below w.heap.size w W1 from Below.trans (by (repeat' (first | (with_reducible exact Below.refl _ _) | (with_reducible refine below_ext ?_ ?_ _) | (with_reducible refine below_al ?_ ?_ _) | (with_reducible refine Below.drew ?_) | (with_reducible refine Below.setCell ?_ ?_ _) | (with_reducible assumption) | (first | (with_reducible exact Nat.le_refl _) | omega | (simp only [World.size_alloc, World.size_setCell, World.size_drew] at *; omega) | (simp at *; omega) | (simp; done))))) (hb.mono (by (first | (with_reducible exact Nat.le_refl _) | omega | (simp only [World.size_alloc, World.size_setCell, World.size_drew] at *; omega) | (simp at *; omega) | (simp; done)))))
  have z1 : w.heap.size + 3 ≤ W1.heap.size := by have := hb.size; simpa using this
  obtain ⟨v0, v1, v2, v3, _, _⟩ := V1
  have HR1 := Lib.hid R1
  obtain ⟨r0, r1, r2, r3, rf, _⟩ := R1
  clear hb
  go_wp2_with (go_at_call 30; refine Hid.out ?_)
  refine Lib.hid ((HD.out _).mono ?_)
  rintro e W2 ⟨rfl, hb⟩
  have A2 : Bytes4 W2 W1.heap.size A := Bytes4.up (by constructor <;> simp [go_sem]) hb
  have R2 := (HR1.out.up (w' := W2) ((by (repeat' (first | (with_reducible exact Below.refl _ _) | (with_reducible refine below_ext ?_ ?_ _) | (with_reducible refine below_al ?_ ?_ _) | (with_reducible refine Below.drew ?_) | (with_reducible refine Below.setCell ?_ ?_ _) | (with_reducible assumption) | (first | (with_reducible exact Nat.le_refl _) | omega | (simp only [World.size_alloc, World.size_setCell, World.size_drew] at *; omega) | (simp at *; omega) | (simp; done)))) : Below W1.heap.size W1 _).trans (hb.mono (by (first | (with_reducible exact Nat.le_refl _) | omega | (simp only [World.size_alloc, World.size_setCell, World.size_drew] at *; omega) | (simp at *; omega) | (simp; done))))))
  have HB2 := Lib.hid (show Below w.heap.size w W2 from HB1.out.trans ((by (repeat' (first | (with_reducible exact Below.refl _ _) | (with_reducible refine below_ext ?_ ?_ _) | (with_reducible refine below_al ?_ ?_ _) | (with_reducible refine Below.drew ?_) | (with_reducible refine Below.setCell ?_ ?_ _) | (with_reducible assumption) | (first | (with_reducible exact Nat.le_refl _) | omega | (simp only [World.size_alloc, World.size_setCell, World.size_drew] at *; omega) | (simp at *; omega) | (simp; done)))) : Below w.heap.size W1 _).trans (hb.mono (by (first | (with_reducible exact Nat.le_refl _) | omega | (simp only [World.size_alloc, World.size_setCell, World.size_drew] at *; omega) | (simp at *; omega) | (simp; done))))))
  have z2 : W1.heap.size + 1 ≤ W2.heap.size := by have := hb.size; simpa using this
  have HR2 := Lib.hid R2
  clear hb v0 v1 v2 v3 r0 r1 r2 r3 rf R2
  obtain ⟨r0, r1, r2, r3, rf, _⟩ := HR2.out
  obtain ⟨a0, a1, a2, a3, af, al⟩ := A2
  have HA2 := Lib.hid (show Cells W2 W1.heap.size 4 A.at from ⟨fun j hj => by
    rcases (show j = 0 ∨ j = 1 ∨ j = 2 ∨ j = 3 by omega) with rfl | rfl | rfl | rfl
    · exact a0
    · exact a1
    · exact a2
    · exact a3, af, al⟩)
  clear a0 a1 a2 a3 af r0 r1 r2 r3 rf
  go_wp2
  obtain ⟨D0, hD0⟩ : ∃ D0 : World, W2.alloc (.cells #[.int .u8 (dataB v).v.a, .int .u8 (dataB v).v.b, .int .u8 (dataB v).v.c, .int .u8 (dataB v).v.d, .int .u8 (dataB v).k] 79) = D0 := ⟨_, rfl⟩
  have HBD := Lib.hid (show Below W2.heap.size W2 D0 by rw [← hD0]; (repeat' (first | (with_reducible exact Below.refl _ _) | (with_reducible refine below_ext ?_ ?_ _) | (with_reducible refine below_al ?_ ?_ _) | (with_reducible refine Below.drew ?_) | (with_reducible refine Below.setCell ?_ ?_ _) | (with_reducible assumption) | (first | (with_reducible exact Nat.le_refl _) | omega | (simp only [World.size_alloc, World.size_setCell, World.size_drew] at *; omega) | (simp at *; omega) | (simp; done)))))
  have HC0 := Lib.hid (show Cells D0 W1.heap.size 4 A.at from ⟨fun j hj => (HBD.out.cell (p := ⟨W1.heap.size, j, none⟩) al).trans (HA2.out.cell j hj), fun o => (HBD.out.frozen (p := ⟨W1.heap.size, o, none⟩) al).trans (HA2.out.fr o), Nat.lt_of_lt_of_le al HBD.out.size⟩)
  have HD0 := Lib.hid (show Cells D0 W2.heap.size 5 (dataB v).at by
    rw [← hD0]
    refine ⟨fun j hj => ?_, fun o => by simp [go_sem], by simp⟩
    rcases (show j = 0 ∨ j = 1 ∨ j = 2 ∨ j = 3 ∨ j = 4 by omega) with rfl | rfl | rfl | rfl | rfl <;> simp [go_sem, B5.at, Rec.at])
  have hsD : D0.heap.size = W2.heap.size + 1 := by rw [← hD0]; simp
  rw [hD0]
  have HSD := Lib.hid hsD
  have zD : W2.heap.size + 1 ≤ D0.heap.size := by omega
  clear hD0 hsD
  go_loopw [34, 17] (fun i _ wr => ∃ k : Nat, k ≤ 4 ∧ i = .int .i64 k ∧ Cells wr W1.heap.size 4 (mix A.at t 0 k) ∧ But (fun b => b = W1.heap.size) D0 wr) (fun i _ _ => 4 - (intOf i).toNat)
  case atStart => exact ⟨0, by omega, rfl, by rw [mix_zero]; exact HC0.out, But.refl _ _⟩
  case round =>
    obtain ⟨k, hk, rfl, hC, hB⟩ := hrel
    have HC := Lib.hid hC
    have HB := Lib.hid hB
    by_cases hlt : k < 4
    · have q0 : wr.cell? ⟨W1.heap.size, k, none⟩ = some (.int .u8 (A.at k)) := by rw [hC.cell k hlt, mix_at]
      have qf := hC.fr
      have hcl := hC.lt
      have k1 : (0 : Int) ≤ (k : Int) := by omega
      have k2 : (k : Int) < 4 := by omega
      clear hC hB
      go_wp2
      go_region
      go_wp2
      go_roundw
      case rel =>
        refine ⟨k + 1, by omega, by simp, ?_, (HB.out.setCell (.inl rfl) _).drew⟩
        exact (HC.out.turn (k := k) (x8 (A.at k) 0)).congr (fun j _ => by rw [← mix_step, H0.out])
      case measure => simp [intOf]; omega
    · obtain rfl : k = 4 := by omega
      clear hC
      have HD1 := Lib.hid (show Cells wr W2.heap.size 5 (dataB v).at from ⟨fun j hj => (hB.cell (b := W2.heap.size) (o := j) HD0.out.lt (by omega)).trans (HD0.out.cell j hj), fun o => (hB.frozen (b := W2.heap.size) (o := o) HD0.out.lt (by omega)).trans (HD0.out.fr o), by have := hB.size; have := HD0.out.lt; omega⟩)
      have hsw := hB.size
      clear hB
      go_wp2
      obtain ⟨E0, rfl⟩ : ∃ E0 : World, E0 = wr := ⟨_, rfl⟩
      go_loopw [46, 18] (fun i _ wr => ∃ k : Nat, k ≤ 5 ∧ i = .int .i64 k ∧ Cells wr W2.heap.size 5 (mix (dataB v).at t 4 k) ∧ But (fun b => b = W2.heap.size) E0 wr) (fun i _ _ => 5 - (intOf i).toNat)
      case atStart => exact ⟨0, by omega, rfl, by rw [mix_zero]; exact HD1.out, But.refl _ _⟩
      case round =>
        obtain ⟨k, hk, rfl, hC, hB⟩ := hrel
        have HC' := Lib.hid hC
        have HB' := Lib.hid hB
        by_cases hlt : k < 5
        · have q0 : wr.cell? ⟨W2.heap.size, k, none⟩ = some (.int .u8 ((dataB v).at k)) := by rw [hC.cell k hlt, mix_at]
          have qf := hC.fr
          have hcl := hC.lt
          have k1 : (0 : Int) ≤ (k : Int) := by omega
          have k2 : (k : Int) < 5 := by omega
          clear hC hB
          go_wp2
          go_region
          go_wp2
          go_roundw
          case rel =>
            refine ⟨k + 1, by omega, by simp, ?_, (HB'.out.setCell (.inl rfl) _).drew⟩
            exact (HC'.out.turn (k := k) (x8 ((dataB v).at k) 0)).congr (fun j _ => by rw [← mix_step, H0.out])
          case measure => simp [intOf]; omega
        · obtain rfl : k = 5 := by omega
          have d0 : wr.cell? ⟨W2.heap.size, 0, none⟩ = some (.int .u8 (turn5 (dataB v) t 4).v.a) := by simpa [mix, B5.at, Rec.at, turn5, turnR] using hC.cell 0 (by omega)
          have d1 : wr.cell? ⟨W2.heap.size, 1, none⟩ = some (.int .u8 (turn5 (dataB v) t 4).v.b) := by simpa [mix, B5.at, Rec.at, turn5, turnR] using hC.cell 1 (by omega)
          have d2 : wr.cell? ⟨W2.heap.size, 2, none⟩ = some (.int .u8 (turn5 (dataB v) t 4).v.c) := by simpa [mix, B5.at, Rec.at, turn5, turnR] using hC.cell 2 (by omega)
          have d3 : wr.cell? ⟨W2.heap.size, 3, none⟩ = some (.int .u8 (turn5 (dataB v) t 4).v.d) := by simpa [mix, B5.at, Rec.at, turn5, turnR] using hC.cell 3 (by omega)
          have d4 : wr.cell? ⟨W2.heap.size, 4, none⟩ = some (.int .u8 (turn5 (dataB v) t 4).k) := by simpa [mix, B5.at, Rec.at, turn5, turnR] using hC.cell 4 (by omega)
          have hC1 : Cells wr W1.heap.size 4 (mix A.at t 0 4) := ⟨fun j hj => (hB.cell (b := W1.heap.size) (o := j) HC.out.lt (by omega)).trans (HC.out.cell j hj), fun o => (hB.frozen (b := W1.heap.size) (o := o) HC.out.lt (by omega)).trans (HC.out.fr o), Nat.lt_of_lt_of_le HC.out.lt hB.size⟩
          have a0 : wr.cell? ⟨W1.heap.size, 0, none⟩ = some (.int .u8 (turnR A t 0).a) := by simpa [mix, Rec.at, turnR] using hC1.cell 0 (by omega)
          have a1 : wr.cell? ⟨W1.heap.size, 1, none⟩ = some (.int .u8 (turnR A t 0).b) := by simpa [mix, Rec.at, turnR] using hC1.cell 1 (by omega)
          have a2 : wr.cell? ⟨W1.heap.size, 2, none⟩ = some (.int .u8 (turnR A t 0).c) := by simpa [mix, Rec.at, turnR] using hC1.cell 2 (by omega)
          have a3 : wr.cell? ⟨W1.heap.size, 3, none⟩ = some (.int .u8 (turnR A t 0).d) := by simpa [mix, Rec.at, turnR] using hC1.cell 3 (by omega)
          have hsr := hB.size
          have HBW := Lib.hid (show Below w.heap.size w wr from HB2.out.trans ((HBD.out.mono (by omega)).trans ((HB.out.below (by omega) (fun b e => by omega)).trans (hB.below (by omega) (fun b e => by omega)))))
          have HRw := Lib.hid (((HR2.out.up HBD.out).but HB.out (by omega)).but hB (by omega))
          clear hC hB hC1
          have hBw := HBW.out
          go_wp2_with (go_at_call 31; refine Hid.out ?_)
          obtain ⟨Z, rfl⟩ : ∃ Z : World, Z = wr := ⟨_, rfl⟩
          refine Lib.hid ((HS.out _ HBW.out).mono ?_)
          clear HS
          generalize hr : serveB s name (turnR A t 0) (turn5 (dataB v) t 4) = r
          have HT2 := HT.out
          rw [hr] at HT2
          have HTT := Lib.hid HT2
          clear HT HT2 hr d0 d1 d2 d3 d4 a0 a1 a2 a3 hBw
          obtain ⟨s', b, f⟩ := r
          dsimp only at HTT ⊢
          rintro e W3 ⟨rfl, F', hS, hG, hB⟩
          have hn0 := HF.out (w.heap.size + 1 + 1) (by omega)
          have HR3 := Lib.hid (HRw.out.but hB hn0)
          have hz := hB.size
          have hB' : But F w W3 := But.trans (But.of_below HBW.out) hB (fun _ _ h => h)
          have hn : ¬ F' (w.heap.size + 1 + 1) := fun hF => by
            rcases hG _ hF with hF | hF
            · exact hn0 hF
            · omega
          have HN := Lib.hid hn
          have HG := Lib.hid (show Grow F w F' from fun b hb => (hG b hb).imp id (fun h => by omega))
          have HS3 := Lib.hid hS
          have HB3 := Lib.hid hB'
          have wz : w.heap.size + 3 ≤ W3.heap.size := by omega
          clear hS hG hB hB' hn hn0 hz
          cases f with
          | false =>
            obtain ⟨r0, r1, r2, r3, rf, _⟩ := HR3.out
            have hz1 : w.heap.size + 1 + 1 < W3.heap.size := by omega
            have hz0 : w.heap.size + 1 < W3.heap.size := by omega
            go_wp2
            (try simp only [Exit.inBlock, Exit.then]); refine bodyPost_ret (by simp [results, Tryd.results15, go_sem, r0, r1, r2, r3, rf, hz1, hz0]; try rfl) rfl ?_
            rw [HTT.out, if_pos trivial]
            have hS := HS3.out
            have hB := HB3.out
            exact ⟨rfl, F', by (repeat' (first | (with_reducible exact hS) | (with_reducible refine StoreAt.ext ?_ _) | (with_reducible refine StoreAt.al ?_ _) | (with_reducible refine StoreAt.drew ?_) | (with_reducible refine StoreAt.setCell ?_ HN.out))), HG.out, by (repeat' (first | (with_reducible exact But.refl _ _) | (with_reducible refine But.ext ?_ _) | (with_reducible refine But.al ?_ _) | (with_reducible refine But.drew ?_) | (with_reducible refine But.setCell ?_ (by first | (left; assumption) | (right; (first | (with_reducible exact Nat.le_refl _) | omega | (simp only [World.size_alloc, World.size_setCell, World.size_drew] at *; omega) | (simp at *; omega) | (simp; done)))) _) | (with_reducible refine But.putMap ?_ (by first | (left; assumption) | (right; (first | (with_reducible exact Nat.le_refl _) | omega | (simp only [World.size_alloc, World.size_setCell, World.size_drew] at *; omega) | (simp at *; omega) | (simp; done)))) _ _) | (with_reducible assumption)))⟩
          | true =>
            have HN2 := Lib.hid (show ¬ F' W3.heap.size from fun hF => by have := HS3.out.lt hF; omega)
            go_wp2
            obtain ⟨G0, hG0⟩ : ∃ G0 : World, W3.alloc (.cells #[.int .u8 b.v.a, .int .u8 b.v.b, .int .u8 b.v.c, .int .u8 b.v.d, .int .u8 b.k] 79) = G0 := ⟨_, rfl⟩
            have HBG := Lib.hid (show Below W3.heap.size W3 G0 by rw [← hG0]; (repeat' (first | (with_reducible exact Below.refl _ _) | (with_reducible refine below_ext ?_ ?_ _) | (with_reducible refine below_al ?_ ?_ _) | (with_reducible refine Below.drew ?_) | (with_reducible refine Below.setCell ?_ ?_ _) | (with_reducible assumption) | (first | (with_reducible exact Nat.le_refl _) | omega | (simp only [World.size_alloc, World.size_setCell, World.size_drew] at *; omega) | (simp at *; omega) | (simp; done)))))
            have HG1 := Lib.hid (show Cells G0 W3.heap.size 5 b.at by
              rw [← hG0]
              refine ⟨fun j hj => ?_, fun o => by simp [go_sem], by simp⟩
              rcases (show j = 0 ∨ j = 1 ∨ j = 2 ∨ j = 3 ∨ j = 4 by omega) with rfl | rfl | rfl | rfl | rfl <;> simp [go_sem, B5.at, Rec.at])
            have hsG : G0.heap.size = W3.heap.size + 1 := by rw [← hG0]; simp
            rw [hG0]
            have HSG := Lib.hid hsG
            have zG : W3.heap.size + 1 ≤ G0.heap.size := by omega
            clear hG0 hsG
            go_loopw [70, 21] (fun i _ wr => ∃ k : Nat, k ≤ 5 ∧ i = .int .i64 k ∧ Cells wr W3.heap.size 5 (mix b.at t 9 k) ∧ But (fun b => b = W3.heap.size) G0 wr) (fun i _ _ => 5 - (intOf i).toNat)
            case atStart => exact ⟨0, by omega, rfl, by rw [mix_zero]; exact HG1.out, But.refl _ _⟩
            case round =>
              obtain ⟨k, hk, rfl, hC, hB⟩ := hrel
              have HC' := Lib.hid hC
              have HB' := Lib.hid hB
              by_cases hlt : k < 5
              · have q0 : wr.cell? ⟨W3.heap.size, k, none⟩ = some (.int .u8 (b.at k)) := by rw [hC.cell k hlt, mix_at]
                have qf := hC.fr
                have hcl := hC.lt
                have k1 : (0 : Int) ≤ (k : Int) := by omega
                have k2 : (k : Int) < 5 := by omega
                clear hC hB
                go_wp2
                go_region
                go_wp2
                go_roundw
                case rel =>
                  refine ⟨k + 1, by omega, by simp, ?_, (HB'.out.setCell (.inl rfl) _).drew⟩
                  exact (HC'.out.turn (k := k) (x8 (b.at k) 0)).congr (fun j _ => by rw [← mix_step, H0.out])
                case measure => simp [intOf]; omega
              · obtain rfl : k = 5 := by omega
                have d0 : wr.cell? ⟨W3.heap.size, 0, none⟩ = some (.int .u8 (turn5 b t 9).v.a) := by simpa [mix, B5.at, Rec.at, turn5, turnR] using hC.cell 0 (by omega)
                have d1 : wr.cell? ⟨W3.heap.size, 1, none⟩ = some (.int .u8 (turn5 b t 9).v.b) := by simpa [mix, B5.at, Rec.at, turn5, turnR] using hC.cell 1 (by omega)
                have d2 : wr.cell? ⟨W3.heap.size, 2, none⟩ = some (.int .u8 (turn5 b t 9).v.c) := by simpa [mix, B5.at, Rec.at, turn5, turnR] using hC.cell 2 (by omega)
                have d3 : wr.cell? ⟨W3.heap.size, 3, none⟩ = some (.int .u8 (turn5 b t 9).v.d) := by simpa [mix, B5.at, Rec.at, turn5, turnR] using hC.cell 3 (by omega)
                have d4 : wr.cell? ⟨W3.heap.size, 4, none⟩ = some (.int .u8 (turn5 b t 9).k) := by simpa [mix, B5.at, Rec.at, turn5, turnR] using hC.cell 4 (by omega)
                have hsr := hB.size
                have HRr := Lib.hid ((HR3.out.up HBG.out).but hB (by omega))
                have hnb : ∀ b, F' b → b ≠ W3.heap.size := fun b hb e => HN2.out (e ▸ hb)
                have HSr := Lib.hid (show StoreAt wr F' p s' from (HS3.out.up HBG.out).keep fun b hb => hB.block b (Nat.lt_of_lt_of_le (HS3.out.lt hb) HBG.out.size) (hnb b hb))
                have HBr := Lib.hid (show But F w wr from ((HB3.out.trans (But.of_below (F := F) HBG.out) (fun _ _ h => h)).trans hB (fun i hi _ e => by omega)))
                clear hC hB hnb
                obtain ⟨r0, r1, r2, r3, rf, _⟩ := HRr.out
                have hz1 : w.heap.size + 1 + 1 < wr.heap.size := by omega
                have hz0 : w.heap.size + 1 < wr.heap.size := by omega
                go_wp2_with ((go_at_call 32; refine (HO.out (turn5 b t 9) _).mono ?_; rintro e w' ⟨rfl, hb⟩; obtain ⟨x, rfl, hx⟩ := ext_intro hb; clear hb))
                (try simp only [Exit.inBlock, Exit.then]); refine bodyPost_ret (by simp [results, Tryd.results15, go_sem, r0, r1, r2, r3, rf, hz1, hz0]; try rfl) rfl ?_
                rw [HTT.out, if_neg (by simp)]
                have hS := HSr.out
                have hB := HBr.out
                exact ⟨rfl, F', by (repeat' (first | (with_reducible exact hS) | (with_reducible refine StoreAt.ext ?_ _) | (with_reducible refine StoreAt.al ?_ _) | (with_reducible refine StoreAt.drew ?_) | (with_reducible refine StoreAt.setCell ?_ HN.out))), HG.out, by (repeat' (first | (with_reducible exact But.refl _ _) | (with_reducible refine But.ext ?_ _) | (with_reducible refine But.al ?_ _) | (with_reducible refine But.drew ?_) | (with_reducible refine But.setCell ?_ (by first | (left; assumption) | (right; (first | (with_reducible exact Nat.le_refl _) | omega | (simp only [World.size_alloc, World.size_setCell, World.size_drew] at *; omega) | (simp at *; omega) | (simp; done)))) _) | (with_reducible refine But.putMap ?_ (by first | (left; assumption) | (right; (first | (with_reducible exact Nat.le_refl _) | omega | (simp only [World.size_alloc, World.size_setCell, World.size_drew] at *; omega) | (simp at *; omega) | (simp; done)))) _ _) | (with_reducible assumption)))⟩

/-- What a map turns. -/
def TurnAt (w : World) (F : Nat → Prop) (mv : Value) (t : Int → Int) : Prop :=
  (mv = .map none ∧ ∀ i, t i = 0) ∨ ∃ m, mv = .map (some m) ∧ IntMap (objAt w m) ∧ m < w.heap.size ∧ ¬ F m ∧ (∀ i, (mapLook (objAt w m) i).getD (.int .u8 0) = .int .u8 (t i)) ∧ ∀ i, byte (t i)

/-- A whole round. -/
theorem serve_Try {w : World} (hl : Lib0 w) {F : Nat → Prop} (hF0 : Apart0 F) {p : Nat} {s : St} (h : StoreAt w F p s) (name to op file rec : Int) (v : Rec) (hv : v.wf) (mv : Value) (t : Int → Int) (ht : TurnAt w F mv t) :
    Calls Tryd.prog 15 #[.pointer (some ⟨p, 0, none⟩), .int .i64 name, .int .i64 to, addrV op file rec, recV v, mv] w fun e w' =>
      e = .returned (.tuple #[recV (tryB s name to op file rec v t).2.1, .int .i64 (tryB s name to op file rec v t).2.2]) ∧ ∃ F', StoreAt w' F' p (tryB s name to op file rec v t).1 ∧ Grow F w F' ∧ But F w w' := by
  by_cases h0 : (askB to op file rec).2 = 0
  · rcases ht with ⟨rfl, h1⟩ | ⟨m, rfl, h1, h2, h3, h4, h5⟩
    · exact serve_Try_nil hl hF0 h name to op file rec v hv t h1 h0
    · exact serve_Try_some hl hF0 h name to op file rec v hv m t h5 h1 h2 h3 h4 h0
  · have e1 : tryB s name to op file rec v t = (s, .zero, (askB to op file rec).2) := by unfold tryB; rw [if_pos h0]
    rw [e1]
    refine (serve_Try_ask _ mv name to op file rec v h0).mono ?_
    rintro e w' ⟨rfl, hb⟩
    exact ⟨rfl, F, h.up hb, Grow.refl _ _, But.of_below hb⟩
end Go.Proofs.YtmoebgkfmkdkpaaDoor
