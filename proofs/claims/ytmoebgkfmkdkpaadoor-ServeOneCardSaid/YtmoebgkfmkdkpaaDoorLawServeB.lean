/- Law 16 (serve): awake. -/
import Derived.Test.YtmoebgkfmkdkpaaDoorLawServe
import Derived.Test.YtmoebgkfmkdkpaaDoorServeG
namespace Go.Proofs.YtmoebgkfmkdkpaaDoor
open Go.RowKit Go.Proofs
set_option linter.unusedSimpArgs false
set_option linter.unusedVariables false

theorem stepBut' {w W W' : World} {F F' : Nat → Prop} (hb : Below w.heap.size w W) (hF : ∀ b, F b → w.heap.size ≤ b) (hG : Grow F W F') (hB : But F W W') : Below w.heap.size w W' ∧ ∀ b, F' b → w.heap.size ≤ b :=
  ⟨hb.trans (hB.below hb.size hF), fun b h => (hG b h).elim (hF b) (fun h => Nat.le_trans hb.size h)⟩
theorem notGrow' {W : World} {F F' : Nat → Prop} (hG : Grow F W F') {b : Nat} (hb : b < W.heap.size) (hn : ¬ F b) : ¬ F' b := fun h => (hG b h).elim hn (fun h => by omega)
theorem apart0_of {w : World} (hl : Lib0 w) {F : Nat → Prop} (hF : ∀ b, F b → w.heap.size ≤ b) : Apart0 F := fun h => by
  have := hF _ h; have := hl.2; omega
theorem Bytes4.al {w : World} {b : Nat} {r : Rec} (h : Bytes4 w b r) (o : Obj) : Bytes4 (w.alloc o) b r := h.up ((Below.refl _ _).alloc (Nat.le_refl _) o)
theorem Bytes4.new (w : World) (r : Rec) (t : TypeId) : Bytes4 (w.alloc (.cells #[.int .u8 r.a, .int .u8 r.b, .int .u8 r.c, .int .u8 r.d] t)) w.heap.size r := by constructor <;> simp [go_sem]

@[go_sem] theorem run_putT (W : World) (m : Nat) (n : Int) (v : Value) (h : IntMap (objAt W m)) (ha : KeysApart (objAt W m)) : (Instr.mapUpdate 50 (.map (some m)) (.int .i64 n) v).run Tryd.prog W = .ok () (putMap W m n v) :=
  run_update_int Tryd.underlying50 Tryd.underlying3 h ha n v
/-- A map of one place alone. -/
theorem turn_one (W : World) (F : Nat → Prop) (hF : ¬ F W.heap.size) (k y : Int) (hy : byte y) : TurnAt (putMap (W.alloc (.map #[] 0)) W.heap.size k (.int .u8 y)) F (.map (some W.heap.size)) (one k y) := by
  have e : objAt (W.alloc (.map #[] 0)) W.heap.size = some (.map #[] 0) := by simp [go_sem]
  have e2 : objAt (putMap (W.alloc (.map #[] 0)) W.heap.size k (.int .u8 y)) W.heap.size = some (mapPut (some (.map #[] 0)) k (.int .u8 y)) := by rw [objAt_putMap, if_pos rfl, e]; rfl
  refine .inr ⟨_, rfl, ?_, by simp [go_sem], hF, fun i => ?_, fun i => ?_⟩
  · rw [e2]; exact intMap_empty.put _ _
  · rw [e2, mapLook_put intMap_empty, mapLook_empty]
    unfold one
    split <;> rfl
  · unfold one
    split
    · exact hy
    · exact byte_0

/-! The store of awake, step by step. -/
def vf0 : File := ⟨7, newRecs 7 1⟩
def vs1 : St := St.empty.put 2 vf0
def vs2 : St := (tryB vs1 5 5 1 2 1 ⟨1, 2, 0, 0⟩ (fun _ => 0)).1
def vs3 : St := (tryB vs2 5 5 1 2 1 ⟨3, 0, 0, 0⟩ (one 4 1)).1
def vs4 : St := (tryB vs3 5 6 0 2 1 .zero (fun _ => 0)).1
theorem vs_a : askB 5 0 2 1 = (⟨5, 2, 1, 92⟩, 0) := by kernel_rfl
theorem vs_b : (tryB vs1 5 5 1 2 1 ⟨1, 2, 0, 0⟩ (fun _ => 0)).2 = (⟨1, 2, 0, 0⟩, 0) := by kernel_rfl
theorem vs_c : (tryB vs2 5 5 1 2 1 ⟨3, 0, 0, 0⟩ (one 4 1)).2 = (.zero, 13) := by kernel_rfl
theorem vs_d : (tryB vs3 5 6 0 2 1 .zero (fun _ => 0)).2 = (.zero, 13) := by kernel_rfl
theorem vs_e : vs4.recAt 2 1 = some ⟨1, 2, 0, 0⟩ := by kernel_rfl
theorem vf0_wf : vf0.wf := by
  intro r hr
  have e : vf0.recs = [⟨1, 7, 165, 163⟩, ⟨0, 0, 0, 0⟩] := by kernel_rfl
  rw [e] at hr
  simp at hr
  rcases hr with rfl | rfl <;> simp [Rec.wf]

set_option maxRecDepth 100000 in
set_option maxHeartbeats 8000000 in
theorem law16_awake (w : World) (hl : Lib0 w) : Calls Tryd.prog 17 #[] w fun e w' => e = .returned (.bool true) ∧ Below w.heap.size w w' := by
  have HL := Lib.hid hl
  clear hl
  go_enter Tryd.func17, Tryd.ntmps17
  go_wp2_with (first | (go_at_call 21; refine Hid.out ?_) | (go_at_call 22; refine Hid.out ?_) | (go_at_call 8; refine Hid.out ?_) | (go_at_call 29; refine Hid.out ?_) | (go_at_call 15; refine Hid.out ?_) | (go_at_call 6; refine Hid.out ?_))
  refine Lib.hid ((ifs_New _).mono ?_)
  rintro e W1 ⟨p, rfl, hS1, hb1⟩
  have HS1 := Lib.hid hS1
  have HB1 := Lib.hid hb1
  have HF1 := Lib.hid (show ∀ b, (w.heap.size ≤ b ∧ b < W1.heap.size) → w.heap.size ≤ b from fun b h => h.1)
  clear hS1 hb1
  go_wp2_with (first | (go_at_call 21; refine Hid.out ?_) | (go_at_call 22; refine Hid.out ?_) | (go_at_call 8; refine Hid.out ?_) | (go_at_call 29; refine Hid.out ?_) | (go_at_call 15; refine Hid.out ?_) | (go_at_call 6; refine Hid.out ?_))
  refine Lib.hid ((ref_New 7 1 (by decide) (by decide) (by decide) W1).mono ?_)
  rintro e W2 ⟨fv, rfl, hf, hb2⟩
  have HS2 := Lib.hid (HS1.out.up hb2)
  have HB2 := Lib.hid (HB1.out.trans (hb2.mono HB1.out.size))
  have HV2 := Lib.hid hf.old
  obtain ⟨a2, c2, rfl, _⟩ := hf.open'
  clear hf hb2
  go_wp2_with (first | (go_at_call 21; refine Hid.out ?_) | (go_at_call 22; refine Hid.out ?_) | (go_at_call 8; refine Hid.out ?_) | (go_at_call 29; refine Hid.out ?_) | (go_at_call 15; refine Hid.out ?_) | (go_at_call 6; refine Hid.out ?_))
  refine Lib.hid ((ifs_Add_put (HS2.out.al _) 2 vf0 (.slice a2 vf0.recs.length c2) (HV2.out.up ((Below.refl _ _).alloc (Nat.le_refl _) _)) vf0_wf (by decide) (newRecs_good 7 1 (by decide) (by decide) (by decide)) rfl).mono ?_)
  rintro e W3 ⟨rfl, F3, hS3, hG3, hB3⟩
  have h3 := stepBut' (HB2.out.alloc HB2.out.size _) HF1.out hG3 hB3
  have HS3 : Hid (StoreAt W3 F3 p vs1) := Lib.hid hS3
  have HB3 := Lib.hid h3.1
  have HF3 := Lib.hid h3.2
  clear hS3 hG3 hB3 h3
  go_wp2_with (first | (go_at_call 21; refine Hid.out ?_) | (go_at_call 22; refine Hid.out ?_) | (go_at_call 8; refine Hid.out ?_) | (go_at_call 29; refine Hid.out ?_) | (go_at_call 15; refine Hid.out ?_) | (go_at_call 6; refine Hid.out ?_))
  refine Lib.hid ((vs_a ▸ serve_Ask 5 0 2 1 W3).mono ?_)
  rintro e W4 ⟨rfl, hb4⟩
  have HS4 := Lib.hid (HS3.out.up hb4)
  have HB4 := Lib.hid (HB3.out.trans (hb4.mono HB3.out.size))
  clear hb4
  go_wp2_with (first | (go_at_call 21; refine Hid.out ?_) | (go_at_call 22; refine Hid.out ?_) | (go_at_call 8; refine Hid.out ?_) | (go_at_call 29; refine Hid.out ?_) | (go_at_call 15; refine Hid.out ?_) | (go_at_call 6; refine Hid.out ?_))
  have X4 := Lib.hid (Bytes4.new W4 ⟨5, 2, 1, 92⟩ 24)
  have n4 : ¬ F3 W4.heap.size := fun h => Nat.lt_irrefl _ (HS4.out.lt h)
  refine Lib.hid ((serve_Try ((HL.out.up HB4.out).al _) (apart0_of HL.out HF3.out) (HS4.out.al _) 5 5 1 2 1 ⟨1, 2, 0, 0⟩ (by simp [Rec.wf]) _ (fun _ => 0) (.inl ⟨rfl, fun _ => rfl⟩)).mono ?_)
  rintro e W5 ⟨rfl, F5, hS5, hG5, hB5⟩
  have h5 := stepBut' (HB4.out.alloc HB4.out.size _) HF3.out hG5 hB5
  have HS5 : Hid (StoreAt W5 F5 p vs2) := Lib.hid hS5
  have HB5 := Lib.hid h5.1
  have HF5 := Lib.hid h5.2
  have X5 := Lib.hid (X4.out.but hB5 n4)
  have m5 : ¬ F5 W4.heap.size := notGrow' hG5 (by simp) n4
  have n5 : ¬ F5 W5.heap.size := fun h => Nat.lt_irrefl _ (HS5.out.lt h)
  have z5 : W4.heap.size + 1 ≤ W5.heap.size := by simpa using hB5.size
  clear hS5 hG5 hB5 h5 n4
  rw [show (tryB vs1 5 5 1 2 1 ⟨1, 2, 0, 0⟩ (fun _ => 0)).2.1 = ⟨1, 2, 0, 0⟩ by rw [vs_b], show (tryB vs1 5 5 1 2 1 ⟨1, 2, 0, 0⟩ (fun _ => 0)).2.2 = 0 by rw [vs_b]]
  have im := intMap_empty
  have ka := keysApart_empty
  go_wp2_with (first | (go_at_call 21; refine Hid.out ?_) | (go_at_call 22; refine Hid.out ?_) | (go_at_call 8; refine Hid.out ?_) | (go_at_call 29; refine Hid.out ?_) | (go_at_call 15; refine Hid.out ?_) | (go_at_call 6; refine Hid.out ?_))
  clear im ka
  have n5' : ¬ F5 (W5.heap.size + 1) := fun h => by have := HS5.out.lt h; omega
  have Y5 := Lib.hid (Bytes4.new W5 ⟨1, 2, 0, 0⟩ 25)
  obtain ⟨U5, hU5⟩ : ∃ U5 : World, W5.alloc (.cells #[.int .u8 1, .int .u8 2, .int .u8 0, .int .u8 0] 25) = U5 := ⟨_, rfl⟩
  have hu5 : U5.heap.size = W5.heap.size + 1 := by rw [← hU5]; simp
  have HU5 := Lib.hid hu5
  have hbU : Below W5.heap.size W5 U5 := by rw [← hU5]; (repeat' (first | (with_reducible exact Below.refl _ _) | (with_reducible refine below_ext ?_ ?_ _) | (with_reducible refine below_al ?_ ?_ _) | (with_reducible refine Below.drew ?_) | (with_reducible refine Below.setCell ?_ ?_ _) | (with_reducible assumption) | (first | (with_reducible exact Nat.le_refl _) | omega | (simp only [World.size_alloc, World.size_setCell, World.size_drew] at *; omega) | (simp at *; omega) | (simp; done))))
  have Y5 : Hid (Bytes4 U5 W5.heap.size ⟨1, 2, 0, 0⟩) := Lib.hid (by rw [← hU5]; exact Y5.out)
  rw [hU5, ← hu5]
  have hP : But (fun b => b = U5.heap.size) U5 (putMap (U5.alloc (.map #[] 0)) U5.heap.size 4 (.int .u8 1)) := ((But.refl (fun b => b = U5.heap.size) U5).al _).putMap (.inl rfl) _ _
  have hPB : Below U5.heap.size U5 (putMap (U5.alloc (.map #[] 0)) U5.heap.size 4 (.int .u8 1)) := hP.below (Nat.le_refl _) (fun b e => by omega)
  have HBU := Lib.hid (HB5.out.trans (hbU.mono HB5.out.size))
  have HBP := Lib.hid (HBU.out.trans (hPB.mono HBU.out.size))
  have hT := turn_one U5 F5 (by rw [hu5]; exact n5') 4 1 (by unfold byte; omega)
  have HSP := Lib.hid ((HS5.out.up hbU).up hPB)
  have XP := Lib.hid ((X5.out.up hbU).up hPB)
  have YP := Lib.hid (Y5.out.up hPB)
  have zP : U5.heap.size + 1 ≤ (putMap (U5.alloc (.map #[] 0)) U5.heap.size 4 (.int .u8 1)).heap.size := by simp [go_sem]
  refine Lib.hid ((serve_Try (HL.out.up HBP.out) (apart0_of HL.out HF5.out) HSP.out 5 5 1 2 1 ⟨3, 0, 0, 0⟩ (by simp [Rec.wf]) _ (one 4 1) hT).mono ?_)
  rintro e W6 ⟨rfl, F6, hS6, hG6, hB6⟩
  have h6 := stepBut' HBP.out HF5.out hG6 hB6
  have HS6 : Hid (StoreAt W6 F6 p vs3) := Lib.hid hS6
  have HB6 := Lib.hid h6.1
  have HF6 := Lib.hid h6.2
  have X6 := Lib.hid (XP.out.but hB6 m5)
  have Y6 := Lib.hid (YP.out.but hB6 n5)
  have m6 : ¬ F6 W4.heap.size := notGrow' hG6 (by omega) m5
  have m6' : ¬ F6 W5.heap.size := notGrow' hG6 (by omega) n5
  have z6 : W5.heap.size + 2 ≤ W6.heap.size := by have := hB6.size; omega
  clear hS6 hG6 hB6 h6 n5 n5' m5 hT hP hPB hbU hU5 zP hu5
  rw [show (tryB vs2 5 5 1 2 1 ⟨3, 0, 0, 0⟩ (one 4 1)).2.1 = .zero by rw [vs_c], show (tryB vs2 5 5 1 2 1 ⟨3, 0, 0, 0⟩ (one 4 1)).2.2 = 13 by rw [vs_c]]
  go_wp2_with (first | (go_at_call 21; refine Hid.out ?_) | (go_at_call 22; refine Hid.out ?_) | (go_at_call 8; refine Hid.out ?_) | (go_at_call 29; refine Hid.out ?_) | (go_at_call 15; refine Hid.out ?_) | (go_at_call 6; refine Hid.out ?_))
  refine Lib.hid ((serve_Try ((HL.out.up HB6.out).al _) (apart0_of HL.out HF6.out) (HS6.out.al _) 5 6 0 2 1 .zero (by simp [Rec.wf, Rec.zero]) _ (fun _ => 0) (.inl ⟨rfl, fun _ => rfl⟩)).mono ?_)
  rintro e W7 ⟨rfl, F7, hS7, hG7, hB7⟩
  have h7 := stepBut' (HB6.out.alloc HB6.out.size _) HF6.out hG7 hB7
  have HS7 : Hid (StoreAt W7 F7 p vs4) := Lib.hid hS7
  have HB7 := Lib.hid h7.1
  have X7 := Lib.hid ((X6.out.al _).but hB7 m6)
  have Y7 := Lib.hid ((Y6.out.al _).but hB7 m6')
  have z7 : W6.heap.size + 1 ≤ W7.heap.size := by simpa using hB7.size
  clear hS7 hG7 hB7 h7 m6 m6'
  rw [show (tryB vs3 5 6 0 2 1 .zero (fun _ => 0)).2.1 = .zero by rw [vs_d], show (tryB vs3 5 6 0 2 1 .zero (fun _ => 0)).2.2 = 13 by rw [vs_d]]
  go_wp2_with (first | (go_at_call 21; refine Hid.out ?_) | (go_at_call 22; refine Hid.out ?_) | (go_at_call 8; refine Hid.out ?_) | (go_at_call 29; refine Hid.out ?_) | (go_at_call 15; refine Hid.out ?_) | (go_at_call 6; refine Hid.out ?_))
  have e8 := ifs_Get (HS7.out.al (.cells #[.int .u8 Rec.zero.a, .int .u8 Rec.zero.b, .int .u8 Rec.zero.c, .int .u8 Rec.zero.d] 25)) 2 1
  rw [vs_e] at e8
  refine Lib.hid (e8.mono ?_)
  rintro e W8 ⟨rfl, hb8⟩
  have X8 := (X7.out.al _).up hb8
  have Y8 := (Y7.out.al _).up hb8
  have HB8 := Lib.hid ((HB7.out.alloc HB7.out.size _).trans (hb8.mono (by have := HB7.out.size; simp; omega)))
  have z8 : W7.heap.size + 1 ≤ W8.heap.size := by simpa using hb8.size
  clear hb8 e8
  obtain ⟨x0, x1, x2, x3, _, xl⟩ := X8
  obtain ⟨y0, y1, y2, y3, _, yl⟩ := Y8
  go_wp2
  go_ret
  have hB := HB8.out
  have hz := hB.size
  exact ⟨rfl, by (repeat' (first | (with_reducible exact Below.refl _ _) | (with_reducible refine below_ext ?_ ?_ _) | (with_reducible refine below_al ?_ ?_ _) | (with_reducible refine Below.drew ?_) | (with_reducible refine Below.setCell ?_ ?_ _) | (with_reducible assumption) | (first | (with_reducible exact Nat.le_refl _) | omega | (simp only [World.size_alloc, World.size_setCell, World.size_drew] at *; omega) | (simp at *; omega) | (simp; done))))⟩
end Go.Proofs.YtmoebgkfmkdkpaaDoor
