/- Law 10 (ifs): few, awake, IfsNobody: what they compute. -/
import Derived.Test.YtmoebgkfmkdkpaaDoorRef
import Derived.Test.YtmoebgkfmkdkpaaDoorNextB
namespace Go.Proofs.YtmoebgkfmkdkpaaDoor
open Go.RowKit Go.Proofs
set_option linter.unusedSimpArgs false
set_option linter.unusedVariables false

theorem law10_few (perm : Int) (a : Option Addr) (n c : Nat) (hn : n ≤ c) (hc : c ≤ 9223372036854775807) (w : World) :
    Calls Tryd.prog 9 #[.agg #[.int .i64 perm, .slice a n c]] w fun e w' => e = .returned (.agg #[.int .i64 perm, .slice a (if 260 < n then 260 else n) c]) ∧ Below w.heap.size w w' := by
  by_cases h : 260 < n
  · have hd : decide (260 < (n : Int)) = true := by simp; omega
    go_enter Tryd.func9, Tryd.ntmps9
    go_wp2
    go_returns
    exact ⟨by simp [h], by (repeat' (first | (with_reducible exact Below.refl _ _) | (with_reducible refine below_ext ?_ ?_ _) | (with_reducible refine below_al ?_ ?_ _) | (with_reducible refine Below.drew ?_) | (with_reducible refine Below.setCell ?_ ?_ _) | (with_reducible assumption) | (first | (with_reducible exact Nat.le_refl _) | omega | (simp only [World.size_alloc, World.size_setCell, World.size_drew] at *; omega) | (simp at *; omega) | (simp; done))))⟩
  · have hd : decide (260 < (n : Int)) = false := by simp; omega
    go_enter Tryd.func9, Tryd.ntmps9
    go_wp2
    go_returns
    exact ⟨by simp [h], by (repeat' (first | (with_reducible exact Below.refl _ _) | (with_reducible refine below_ext ?_ ?_ _) | (with_reducible refine below_al ?_ ?_ _) | (with_reducible refine Below.drew ?_) | (with_reducible refine Below.setCell ?_ ?_ _) | (with_reducible assumption) | (first | (with_reducible exact Nat.le_refl _) | omega | (simp only [World.size_alloc, World.size_setCell, World.size_drew] at *; omega) | (simp at *; omega) | (simp; done))))⟩

theorem ifs_Copy_nil (w : World) : Calls Tryd.prog 13 #[.pointer none] w fun e w' => e = .returned (.pointer none) ∧ w = w' := by
  go_enter Tryd.func13, Tryd.ntmps13
  go_wp2
  go_ret
  exact ⟨rfl, rfl⟩

/-! The store of awake, step by step. -/
def wf0 : File := ⟨2, newRecs 2 3⟩
def ws1 : St := St.empty.put 7 wf0
def ws2 : St := (ws1.do 1 7 2 ⟨9, 0, 0, 0⟩).1
def ws3 : St := (ws2.do 0 7 2 .zero).1
def ws4 : St := (ws3.do 0 8 0 .zero).1
def ws5 : St := (ws4.set 7 1 ⟨9, 0, 0, 0⟩).1
theorem ws_a : St.empty.add 7 wf0 = (ws1, 0) := by rfl
theorem ws_b : (ws1.do 1 7 2 ⟨9, 0, 0, 0⟩).2 = (⟨9, 0, 0, 0⟩, 0) := by rfl
theorem ws_c : (ws2.do 0 7 2 .zero).2.2 = 5 := by rfl
theorem ws_d : (ws3.do 0 8 0 .zero).2.2 = 3 := by rfl
theorem ws_e : ws4.recAt 7 2 = some ⟨9, 0, 0, 0⟩ := by rfl
theorem ws_f : ws4.denied = 1 := by kernel_rfl
theorem ws_g : ws4.files.length = 1 := by rfl
theorem ws_h : (ws4.set 7 1 ⟨9, 0, 0, 0⟩).2 = true := by rfl
theorem ws_i : (ws5.set 7 0 ⟨9, 0, 0, 0⟩).2 = false := by rfl

theorem wf0_wf : wf0.wf := by
  intro r hr
  have e : wf0.recs = [⟨3, 2, 165, 164⟩, ⟨0, 0, 0, 0⟩, ⟨0, 0, 0, 0⟩, ⟨0, 0, 0, 0⟩] := by kernel_rfl
  rw [e] at hr
  simp at hr
  rcases hr with rfl | rfl <;> simp [Rec.wf]
theorem StoreAt.denied {w : World} {F : Nat → Prop} {p : Nat} {s : St} (h : StoreAt w F p s) : w.cell? ⟨p, 1, none⟩ = some (.int .i64 s.denied) := by
  obtain ⟨m, G, h⟩ := h
  exact h.c1
theorem stepBut {w W W' : World} {F F' : Nat → Prop} (hb : Below w.heap.size w W) (hF : ∀ b, F b → w.heap.size ≤ b) (hG : Grow F W F') (hB : But F W W') : Below w.heap.size w W' ∧ ∀ b, F' b → w.heap.size ≤ b :=
  ⟨hb.trans (hB.below hb.size hF), fun b h => (hG b h).elim (hF b) (fun h => Nat.le_trans hb.size h)⟩
/-- A block that is there, and is not the store's, is not the store's behind a step either. -/
theorem notGrow {W : World} {F F' : Nat → Prop} (hG : Grow F W F') {b : Nat} (hb : b < W.heap.size) (hn : ¬ F b) : ¬ F' b := fun h => (hG b h).elim hn (fun h => by omega)

set_option maxRecDepth 100000 in
set_option maxHeartbeats 8000000 in
theorem law10_awake (w : World) (hl : Lib0 w) : Calls Tryd.prog 7 #[] w fun e w' => e = .returned (.bool true) ∧ Below w.heap.size w w' := by
  have HL := Lib.hid hl
  clear hl
  go_enter Tryd.func7, Tryd.ntmps7
  go_wp2_with (first | (go_at_call 21; refine Hid.out ?_) | (go_at_call 22; refine Hid.out ?_) | (go_at_call 8; refine Hid.out ?_) | (go_at_call 5; refine Hid.out ?_) | (go_at_call 6; refine Hid.out ?_) | (go_at_call 11; refine Hid.out ?_) | (go_at_call 12; refine Hid.out ?_) | (go_at_call 10; refine Hid.out ?_))
  refine Lib.hid ((ifs_New _).mono ?_)
  rintro e W1 ⟨p, rfl, hS1, hb1⟩
  have HS1 := Lib.hid hS1
  have HB1 := Lib.hid hb1
  have HF1 := Lib.hid (show ∀ b, (w.heap.size ≤ b ∧ b < W1.heap.size) → w.heap.size ≤ b from fun b h => h.1)
  clear hS1 hb1
  go_wp2_with (first | (go_at_call 21; refine Hid.out ?_) | (go_at_call 22; refine Hid.out ?_) | (go_at_call 8; refine Hid.out ?_) | (go_at_call 5; refine Hid.out ?_) | (go_at_call 6; refine Hid.out ?_) | (go_at_call 11; refine Hid.out ?_) | (go_at_call 12; refine Hid.out ?_) | (go_at_call 10; refine Hid.out ?_))
  refine Lib.hid ((ref_New 2 3 (by decide) (by decide) (by decide) W1).mono ?_)
  rintro e W2 ⟨fv, rfl, hf, hb2⟩
  have HS2 := Lib.hid (HS1.out.up hb2)
  have HB2 := Lib.hid (HB1.out.trans (hb2.mono HB1.out.size))
  have HV2 := Lib.hid hf.old
  obtain ⟨a2, c2, rfl, _⟩ := hf.open'
  clear hf hb2
  go_wp2_with (first | (go_at_call 21; refine Hid.out ?_) | (go_at_call 22; refine Hid.out ?_) | (go_at_call 8; refine Hid.out ?_) | (go_at_call 5; refine Hid.out ?_) | (go_at_call 6; refine Hid.out ?_) | (go_at_call 11; refine Hid.out ?_) | (go_at_call 12; refine Hid.out ?_) | (go_at_call 10; refine Hid.out ?_))
  refine Lib.hid ((ifs_Add_put (HS2.out.al _) 7 wf0 (.slice a2 wf0.recs.length c2) (HV2.out.up ((Below.refl _ _).alloc (Nat.le_refl _) _)) wf0_wf (by decide) (newRecs_good 2 3 (by decide) (by decide) (by decide)) rfl).mono ?_)
  rintro e W3 ⟨rfl, F3, hS3, hG3, hB3⟩
  have h3 := stepBut (HB2.out.alloc HB2.out.size _) HF1.out hG3 hB3
  have HS3 := Lib.hid hS3
  have HB3 := Lib.hid h3.1
  have HF3 := Lib.hid h3.2
  clear hS3 hG3 hB3 h3
  go_wp2_with (first | (go_at_call 21; refine Hid.out ?_) | (go_at_call 22; refine Hid.out ?_) | (go_at_call 8; refine Hid.out ?_) | (go_at_call 5; refine Hid.out ?_) | (go_at_call 6; refine Hid.out ?_) | (go_at_call 11; refine Hid.out ?_) | (go_at_call 12; refine Hid.out ?_) | (go_at_call 10; refine Hid.out ?_))
  refine Lib.hid ((ifs_Do next_said (HL.out.up HB3.out) HS3.out 1 7 2 ⟨9, 0, 0, 0⟩ (by simp [Rec.wf])).mono ?_)
  rintro e W4 ⟨rfl, F4, hS4, hG4, hB4⟩
  have h4 := stepBut HB3.out HF3.out hG4 hB4
  have HS4 : Hid (StoreAt W4 F4 p ws2) := Lib.hid hS4
  have HB4 := Lib.hid h4.1
  have HF4 := Lib.hid h4.2
  clear hS4 hG4 hB4 h4
  rw [show ((St.empty.put 7 wf0).do 1 7 2 ⟨9, 0, 0, 0⟩).2.1 = ⟨9, 0, 0, 0⟩ from rfl, show ((St.empty.put 7 wf0).do 1 7 2 ⟨9, 0, 0, 0⟩).2.2 = 0 from rfl]
  go_wp2_with (first | (go_at_call 21; refine Hid.out ?_) | (go_at_call 22; refine Hid.out ?_) | (go_at_call 8; refine Hid.out ?_) | (go_at_call 5; refine Hid.out ?_) | (go_at_call 6; refine Hid.out ?_) | (go_at_call 11; refine Hid.out ?_) | (go_at_call 12; refine Hid.out ?_) | (go_at_call 10; refine Hid.out ?_))
  have hn5 : ¬ F4 W4.heap.size := fun h => Nat.lt_irrefl _ (HS4.out.lt h)
  refine Lib.hid ((ifs_Do next_said ((HL.out.up HB4.out).al _) (HS4.out.al _) 0 7 2 .zero (by simp [Rec.wf, Rec.zero])).mono ?_)
  rintro e W5 ⟨rfl, F5, hS5, hG5, hB5⟩
  have h5 := stepBut (HB4.out.alloc HB4.out.size _) HF4.out hG5 hB5
  have HS5 : Hid (StoreAt W5 F5 p ws3) := Lib.hid hS5
  have HB5 := Lib.hid h5.1
  have HF5 := Lib.hid h5.2
  have l5 := hB5.size
  have c5 := fun o => hB5.cell (b := W4.heap.size) (o := o) (by simp) hn5
  have hn6 : ¬ F5 W4.heap.size := notGrow hG5 (by simp) hn5
  clear hS5 hG5 hB5 h5 hn5
  rw [show (ws2.do 0 7 2 .zero).2.1 = .zero from rfl, show (ws2.do 0 7 2 .zero).2.2 = 5 from rfl]
  have k5 : W4.heap.size < W5.heap.size := by simp at l5; omega
  go_wp2_with (first | (go_at_call 21; refine Hid.out ?_) | (go_at_call 22; refine Hid.out ?_) | (go_at_call 8; refine Hid.out ?_) | (go_at_call 5; refine Hid.out ?_) | (go_at_call 6; refine Hid.out ?_) | (go_at_call 11; refine Hid.out ?_) | (go_at_call 12; refine Hid.out ?_) | (go_at_call 10; refine Hid.out ?_))
  refine Lib.hid ((ifs_Do next_said ((HL.out.up HB5.out).al _) (HS5.out.al _) 0 8 0 .zero (by simp [Rec.wf, Rec.zero])).mono ?_)
  rintro e W6 ⟨rfl, F6, hS6, hG6, hB6⟩
  have h6 := stepBut (HB5.out.alloc HB5.out.size _) HF5.out hG6 hB6
  have HS6 : Hid (StoreAt W6 F6 p ws4) := Lib.hid hS6
  have HB6 := Lib.hid h6.1
  have HF6 := Lib.hid h6.2
  have l6 := hB6.size
  have c6 := fun o => hB6.cell (b := W4.heap.size) (o := o) (by simp; omega) hn6
  have hn7 : ¬ F6 W4.heap.size := notGrow hG6 (by simp; omega) hn6
  clear hS6 hG6 hB6 h6 hn6
  rw [show (ws3.do 0 8 0 .zero).2.1 = .zero from rfl, show (ws3.do 0 8 0 .zero).2.2 = 3 from rfl]
  have k6 : W4.heap.size < W6.heap.size := by simp at l6; omega
  go_wp2_with (first | (go_at_call 21; refine Hid.out ?_) | (go_at_call 22; refine Hid.out ?_) | (go_at_call 8; refine Hid.out ?_) | (go_at_call 5; refine Hid.out ?_) | (go_at_call 6; refine Hid.out ?_) | (go_at_call 11; refine Hid.out ?_) | (go_at_call 12; refine Hid.out ?_) | (go_at_call 10; refine Hid.out ?_))
  have e7 := ifs_Get (HS6.out.al (.cells #[.int .u8 Rec.zero.a, .int .u8 Rec.zero.b, .int .u8 Rec.zero.c, .int .u8 Rec.zero.d] 25)) 7 2
  rw [show ws4.recAt 7 2 = some ⟨9, 0, 0, 0⟩ from rfl] at e7
  refine Lib.hid (e7.mono ?_)
  rintro e W7 ⟨rfl, hb7⟩
  have HS7 := Lib.hid ((HS6.out.al _).up hb7)
  have HB7 := Lib.hid ((HB6.out.alloc HB6.out.size _).trans (hb7.mono (by have := HB6.out.size; simp; omega)))
  have c7 := fun o => hb7.cell (p := ⟨W4.heap.size, o, none⟩) (by simp; omega)
  have l7 := hb7.size
  clear hb7 e7
  have k7 : W4.heap.size < W7.heap.size := by simp at l7; omega
  go_wp2_with (first | (go_at_call 21; refine Hid.out ?_) | (go_at_call 22; refine Hid.out ?_) | (go_at_call 8; refine Hid.out ?_) | (go_at_call 5; refine Hid.out ?_) | (go_at_call 6; refine Hid.out ?_) | (go_at_call 11; refine Hid.out ?_) | (go_at_call 12; refine Hid.out ?_) | (go_at_call 10; refine Hid.out ?_))
  refine Lib.hid ((ifs_Denied p 1 _ (ws_f ▸ (HS7.out.al _).denied)).mono ?_)
  rintro e W8 ⟨rfl, rfl⟩
  go_wp2_with (first | (go_at_call 21; refine Hid.out ?_) | (go_at_call 22; refine Hid.out ?_) | (go_at_call 8; refine Hid.out ?_) | (go_at_call 5; refine Hid.out ?_) | (go_at_call 6; refine Hid.out ?_) | (go_at_call 11; refine Hid.out ?_) | (go_at_call 12; refine Hid.out ?_) | (go_at_call 10; refine Hid.out ?_))
  have e8 := ifs_Files (HS7.out.al (.cells #[.int .u8 9, .int .u8 0, .int .u8 0, .int .u8 0] 25))
  refine Lib.hid (e8.mono ?_)
  rintro e W8 ⟨v, rfl, hv, hb8⟩
  clear e8
  have HS8 := Lib.hid ((HS7.out.al _).up hb8)
  have HB8 := Lib.hid ((HB7.out.alloc HB7.out.size _).trans (hb8.mono (by have := HB7.out.size; simp; omega)))
  have c8 := fun o => hb8.cell (p := ⟨W4.heap.size, o, none⟩) (by simp; omega)
  have c8' := fun o => hb8.cell (p := ⟨W7.heap.size, o, none⟩) (by simp)
  have l8 := hb8.size
  obtain ⟨a8, n8, rfl, hn8, _⟩ := hv.open'
  rw [ws_g] at hn8 ⊢
  clear hb8 hv
  have k8 : W4.heap.size < W8.heap.size := by simp at l8; omega
  have m8 : W7.heap.size < W8.heap.size := by simp at l8; omega
  go_wp2_with (first | (go_at_call 21; refine Hid.out ?_) | (go_at_call 22; refine Hid.out ?_) | (go_at_call 8; refine Hid.out ?_) | (go_at_call 5; refine Hid.out ?_) | (go_at_call 6; refine Hid.out ?_) | (go_at_call 11; refine Hid.out ?_) | (go_at_call 12; refine Hid.out ?_) | (go_at_call 10; refine Hid.out ?_))
  refine Lib.hid ((ifs_Set HS8.out 7 1 ⟨9, 0, 0, 0⟩ (by simp [Rec.wf])).mono ?_)
  rintro e W9 ⟨rfl, hS9, hB9⟩
  have HS9 : Hid (StoreAt W9 F6 p ws5) := Lib.hid hS9
  have HB9 := Lib.hid (HB8.out.trans (hB9.below HB8.out.size HF6.out))
  have c9 := fun o => hB9.cell (b := W4.heap.size) (o := o) (by omega) hn7
  rw [ws_h]
  clear hS9 hB9
  go_wp2_with (first | (go_at_call 21; refine Hid.out ?_) | (go_at_call 22; refine Hid.out ?_) | (go_at_call 8; refine Hid.out ?_) | (go_at_call 5; refine Hid.out ?_) | (go_at_call 6; refine Hid.out ?_) | (go_at_call 11; refine Hid.out ?_) | (go_at_call 12; refine Hid.out ?_) | (go_at_call 10; refine Hid.out ?_))
  refine Lib.hid ((ifs_Set HS9.out 7 0 ⟨9, 0, 0, 0⟩ (by simp [Rec.wf])).mono ?_)
  rintro e W10 ⟨rfl, hS10, hB10⟩
  have HB10 := Lib.hid (HB9.out.trans (hB10.below HB9.out.size HF6.out))
  rw [ws_i]
  clear hS10 hB10
  go_wp2
  go_ret
  exact ⟨rfl, HB10.out⟩

set_option maxRecDepth 100000 in
set_option maxHeartbeats 8000000 in
theorem law10_IfsNobody (kind op file rec perm : Int) (v : Rec) (a : Option Addr) (n c : Nat) (hn : n ≤ c) (hc : c ≤ 9223372036854775807) (w : World) (hl : Lib0 w) :
    Calls Tryd.prog 3 #[.agg #[.int .u8 kind, .int .i64 op, .int .i64 file, .int .i64 rec, .int .u8 v.a, .int .u8 v.b, .int .u8 v.c, .int .u8 v.d, .int .i64 perm, .slice a n c]] w fun e w' => e = .returned (.bool true) ∧ Below w.heap.size w w' := by
  have HL := Lib.hid hl
  have hc' := Lib.hid hc
  have hn' := Lib.hid hn
  clear hl hc hn
  go_enter Tryd.func3, Tryd.ntmps3
  go_wp2_with (first | (go_at_call 5; refine Hid.out ?_) | (go_at_call 6; refine Hid.out ?_) | (go_at_call 7; refine Hid.out ?_))
  refine Lib.hid ((ifs_Do_nil .nilIface op file rec v _).mono ?_)
  rintro e W1 ⟨rfl, hb⟩
  obtain ⟨x, rfl, hx⟩ := ext_intro hb
  clear hb
  go_wp2_with (first | (go_at_call 5; refine Hid.out ?_) | (go_at_call 6; refine Hid.out ?_) | (go_at_call 7; refine Hid.out ?_))
  refine Lib.hid ((ifs_Get_nil file rec _).mono ?_)
  rintro e W2 ⟨rfl, hb⟩
  obtain ⟨y, rfl, hy⟩ := ext_intro hb
  clear hb
  go_wp2_with (first | (go_at_call 5; refine Hid.out ?_) | (go_at_call 6; refine Hid.out ?_) | (go_at_call 7; refine Hid.out ?_))
  refine wp_region_ext (by kernel_rfl) (by kernel_rfl) ?_; (repeat (go_big_quiet_step ((first | (go_at_call 7; exact Calls.ext_of (law10_awake _ (HL.out.up (by (repeat' (first | (with_reducible exact Below.refl _ _) | (with_reducible refine below_ext ?_ ?_ _) | (with_reducible refine below_al ?_ ?_ _) | (with_reducible refine Below.drew ?_) | (with_reducible refine Below.setCell ?_ ?_ _) | (with_reducible assumption) | (first | (with_reducible exact Nat.le_refl _) | omega | (simp only [World.size_alloc, World.size_setCell, World.size_drew] at *; omega) | (simp at *; omega) | (simp; done)))))))) | (go_at_call 9; exact Calls.ext_of (law10_few perm a n c hn'.out hc'.out _)) | (go_at_call 8; exact Calls.ext_of (ifs_Add_nil file _ ⟨perm, []⟩ (.slice a (if 260 < n then 260 else n) c) rfl _)) | (go_at_call 10; exact Calls.ext_of (ifs_Set_nil file rec v _)) | (go_at_call 11; exact Calls.ext_of_same (ifs_Denied_nil _)) | (go_at_call 12; exact Calls.ext_of (ifs_Files_nil _)) | (go_at_call 13; exact Calls.ext_of_same (ifs_Copy_nil _)))))); refine wpQuiet_nil ?_; rintro _ ⟨nq, rfl⟩; have hq := size_grownTo _ nq
  go_wp2
  all_goals (go_ret; exact ⟨rfl, by (repeat' (first | (with_reducible exact Below.refl _ _) | (with_reducible refine below_ext ?_ ?_ _) | (with_reducible refine below_al ?_ ?_ _) | (with_reducible refine Below.drew ?_) | (with_reducible refine Below.setCell ?_ ?_ _) | (with_reducible assumption) | (first | (with_reducible exact Nat.le_refl _) | omega | (simp only [World.size_alloc, World.size_setCell, World.size_drew] at *; omega) | (simp at *; omega) | (simp; done))))⟩)
end Go.Proofs.YtmoebgkfmkdkpaaDoor
