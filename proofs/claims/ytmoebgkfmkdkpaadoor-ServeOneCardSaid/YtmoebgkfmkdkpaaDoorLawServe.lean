/- Law 16 (serve): build. -/
import Derived.Test.YtmoebgkfmkdkpaaDoorRefF
import Derived.Test.YtmoebgkfmkdkpaaDoorTail
namespace Go.Proofs.YtmoebgkfmkdkpaaDoor
open Go.RowKit Go.Proofs
set_option linter.unusedSimpArgs false
set_option linter.unusedVariables false

theorem addOne_denied (s : St) (x : Int × File) : (addOne s x).denied = s.denied := by
  unfold addOne St.add
  split
  · split
    · rfl
    · split
      · rfl
      · split <;> rfl
  · rfl
theorem stOf_denied (l : List (Int × File)) : (stOf l).denied = 0 := by
  unfold stOf
  have : ∀ (l : List (Int × File)) (s : St), (l.foldl addOne s).denied = s.denied := by
    intro l
    induction l with
    | nil => intro s; rfl
    | cons x l ih => intro s; rw [List.foldl_cons, ih, addOne_denied]
  rw [this]; rfl
theorem lookF_take_none {l : List (Int × File)} (hr : Rising l) {k : Nat} {x : Int × File} (hx : l[k]? = some x) : lookF (l.take k) x.1 = none := by
  refine lookF_none_of fun j y hy => ?_
  rw [List.getElem?_take] at hy
  split at hy
  · rename_i hj
    have := List.pairwise_iff_getElem.1 hr j k (List.getElem?_eq_some_iff.1 hy).1 (List.getElem?_eq_some_iff.1 hx).1 hj
    rw [(List.getElem?_eq_some_iff.1 hy).2, (List.getElem?_eq_some_iff.1 hx).2] at this
    omega
  · cases hy
theorem putF_end {l : List (Int × File)} {n : Int} {f : File} (h : ∀ x ∈ l, x.1 < n) : putF l n f = l ++ [(n, f)] := by
  induction l with
  | nil => rfl
  | cons x r ih =>
    obtain ⟨k, g⟩ := x
    have := h (k, g) (by simp)
    simp only at this
    simp only [putF]
    rw [if_neg (by omega), if_neg (by omega), ih (fun y hy => h y (by simp [hy]))]
    rfl
/-- A store with the first files of another one's. -/
def firstF (s : St) (k : Nat) : St := ⟨s.files.take k, 0⟩
theorem firstF_ok {s : St} (h : s.Ok) (k : Nat) : (firstF s k).Ok where
  rising := List.Pairwise.sublist (List.take_sublist _ _) h.rising
  num := fun x hx => h.num x (List.mem_of_mem_take hx)
  good := fun x hx => h.good x (List.mem_of_mem_take hx)
  wf := fun x hx => h.wf x (List.mem_of_mem_take hx)
theorem firstF_put {s : St} (h : s.Ok) {k : Nat} {x : Int × File} (hx : s.files[k]? = some x) : (firstF s k).put x.1 x.2 = firstF s (k + 1) := by
  unfold firstF St.put
  dsimp only
  congr 1
  rw [putF_end, List.take_add_one, hx]
  · rfl
  · intro y hy
    obtain ⟨j, hj, rfl⟩ := List.getElem_of_mem hy
    rw [List.length_take] at hj
    have := List.pairwise_iff_getElem.1 h.rising j k (by omega) (List.getElem?_eq_some_iff.1 hx).1 (by omega)
    rw [(List.getElem?_eq_some_iff.1 hx).2] at this
    simpa using this

/-- The program's store and the document's, apart. -/
def Twins (w w' : World) (F : Nat → Prop) (s : St) (p q : Nat) : Prop :=
  ∃ FS FR, StoreAt w' FS p s ∧ RefAt w' FR q s ∧ (∀ b, FS b → New w w' b) ∧ (∀ b, FR b → F b ∨ New w w' b) ∧ (∀ b, FS b → ¬ FR b ∧ b ≠ q) ∧ New w w' q ∧ Below w.heap.size w w'

set_option maxRecDepth 100000 in
set_option maxHeartbeats 4000000 in
theorem law16_build {w : World} {F : Nat → Prop} (hF : OldK w F) (l : List (Int × File)) (v : Value) (hv : Sl namedK w F v l) (hw : ∀ x ∈ l, x.2.wf) :
    Calls Tryd.prog 14 #[v] w fun e w' => ∃ p q, e = .returned (.tuple #[.pointer (some ⟨p, 0, none⟩), .pointer (some ⟨q, 0, none⟩)]) ∧ Twins w w' F (stOf l) p q := by
  have HV := Lib.hid hv
  have HW := Lib.hid hw
  have HF := Lib.hid hF
  have HK := Lib.hid (stOf_ok hw)
  have HD := Lib.hid (stOf_denied l)
  clear hv hw hF
  go_enter Tryd.func14, Tryd.ntmps14
  go_wp2_with (first | (go_at_call 21; refine Hid.out ?_) | (go_at_call 28; refine Hid.out ?_))
  refine Lib.hid ((ifs_New _).mono ?_)
  rintro e W1 ⟨p, rfl, hS, hb1⟩
  have HS := Lib.hid hS
  have HB1 := Lib.hid hb1
  clear hS hb1
  go_wp2_with (first | (go_at_call 21; refine Hid.out ?_) | (go_at_call 28; refine Hid.out ?_))
  have hF1 : OldK W1 F := fun b hb => Nat.lt_of_lt_of_le (HF.out b hb) HB1.out.size
  refine Lib.hid ((ref14_Store hF1 l v (HV.out.keep fun b hb => HB1.out.block b (HF.out b hb)) HW.out).mono ?_)
  rintro e W2 ⟨q, rfl, hq, hR, hb2⟩
  obtain ⟨s, hse⟩ : ∃ s, stOf l = s := ⟨_, rfl⟩
  rw [hse] at HK HD hR
  have HSE := Lib.hid hse
  clear hse
  have HR := Lib.hid hR
  have HB2 := Lib.hid hb2
  have HQ := Lib.hid hq
  have HS2 := Lib.hid (HS.out.up hb2)
  have hq1 := hq.1
  have hq2 := hq.2
  obtain ⟨sv, hc0, hsl⟩ := hR.cs
  have HSL := Lib.hid hsl
  obtain ⟨sa, sc, rfl, hsc, hsn, hsm, _⟩ := hsl.open'
  have hs1 := HB1.out.size
  have hs2 := hb2.size
  clear hR hb2 hq hsl
  go_wp2
  go_loopw [6] (fun i wr => ∃ (k : Nat) (FS : Nat → Prop), k ≤ s.files.length ∧ i = .int .i64 k ∧ StoreAt wr FS p (firstF s k) ∧ (∀ b, FS b → (w.heap.size ≤ b ∧ b < W1.heap.size) ∨ W2.heap.size ≤ b) ∧ But (fun b => w.heap.size ≤ b ∧ b < W1.heap.size) W2 wr)
    (fun i _ => s.files.length - (intOf i).toNat)
  case atStart => exact ⟨0, _, Nat.zero_le _, rfl, HS2.out, fun b hb => .inl hb, But.refl _ _⟩
  case round =>
    obtain ⟨k, FS, hk, rfl, hS, hFS, hB⟩ := hrel
    have hsz := hB.size
    have keepR : ∀ b, b < W2.heap.size → (b < w.heap.size ∨ W1.heap.size ≤ b) → wr.heap[b]? = W2.heap[b]? := fun b h1 h2 => hB.block b h1 (by omega)
    have hfr : ∀ b, Since F W1 W2 q b → b < W2.heap.size ∧ (b < w.heap.size ∨ W1.heap.size ≤ b) := fun b hb => by
      rcases hb.1 with h | h
      · have := HF.out b h; omega
      · exact ⟨h.2, .inr h.1⟩
    have hR : RefAt wr (Since F W1 W2 q) q s := HR.out.keep fun b hb => by
      rcases hb with hb | rfl
      · exact keepR b (hfr b hb).1 (hfr b hb).2
      · exact keepR _ hq2 (.inr hq1)
    have c0 : wr.cell? ⟨q, 0, none⟩ = some (.slice sa s.files.length sc) := (World.cell?_of_block (w := W2) (a := ⟨q, 0, none⟩) (keepR q hq2 (.inr hq1))).trans hc0
    have hsl : Sl namedK wr (Since F W1 W2 q) (.slice sa s.files.length sc) s.files := HSL.out.keep fun b hb => keepR b (hfr b hb).1 (hfr b hb).2
    have hqw : q < wr.heap.size := by omega
    have A1 := Lib.hid hS
    have A2 := Lib.hid hFS
    have A3 := Lib.hid hB
    have A4 := Lib.hid hR
    have A5 := Lib.hid hfr
    clear hS hFS hB keepR hR hc0 hfr
    by_cases hlt : k < s.files.length
    · obtain ⟨bb, o, x, u, rfl, hFb, hbb, hx, d0, d1, d2, hu⟩ := named_cells hsl hlt
      obtain ⟨n, f⟩ := x
      dsimp only at d0 d1 d2 hu
      have hok := HK.out
      have hmem := List.mem_of_getElem? hx
      have hnum := hok.num _ hmem
      have hgood := Lib.hid (hok.good _ hmem)
      have hwf := Lib.hid (hok.wf _ hmem)
      have hput := Lib.hid (firstF_put hok hx)
      have hnone := Lib.hid (show (firstF s k).get n = none from lookF_take_none hok.rising hx)
      have HU := Lib.hid (show SlO recK wr u f.recs from hu.mono fun b hb => (Nat.lt_of_lt_of_le (A5.out b hb).1 hsz))
      obtain ⟨ua, uc, rfl, _⟩ := hu.open'
      have hn1 : (0 : Int) ≤ (k : Int) := by omega
      have hn2 : (k : Int) < (s.files.length : Int) := by omega
      clear hok hmem hx hu hsl
      dsimp only at hnum
      go_wp2
      refine wp_region_tail 17 (by kernel_rfl) (by kernel_rfl) ?_; simp only [List.take_succ_cons, List.take_zero, List.drop_succ_cons, List.drop_zero]; (repeat still_step); (try refine wpStill_nil ?_)
      go_wp2_with (go_at_call 8; refine Hid.out ?_)
      refine Lib.hid ((ifs_Add_put (A1.out.up (by (repeat' (first | (with_reducible exact Below.refl _ _) | (with_reducible refine below_ext ?_ ?_ _) | (with_reducible refine below_al ?_ ?_ _) | (with_reducible refine Below.drew ?_) | (with_reducible refine Below.setCell ?_ ?_ _) | (with_reducible assumption) | (first | (with_reducible exact Nat.le_refl _) | omega | (simp only [World.size_alloc, World.size_setCell, World.size_drew] at *; omega) | (simp at *; omega) | (simp; done)))))) n f _ (SlO.up HU.out (by (repeat' (first | (with_reducible exact Below.refl _ _) | (with_reducible refine below_ext ?_ ?_ _) | (with_reducible refine below_al ?_ ?_ _) | (with_reducible refine Below.drew ?_) | (with_reducible refine Below.setCell ?_ ?_ _) | (with_reducible assumption) | (first | (with_reducible exact Nat.le_refl _) | omega | (simp only [World.size_alloc, World.size_setCell, World.size_drew] at *; omega) | (simp at *; omega) | (simp; done)))))) hwf.out (by omega) hgood.out hnone.out).mono ?_)
      rintro e W3 ⟨rfl, F', hS3, hG3, hB3⟩
      have C1 := Lib.hid hS3
      have C2 := Lib.hid hG3
      have C3 := Lib.hid hB3
      clear hS3 hG3 hB3
      go_wp2
      go_roundw
      case rel =>
        refine ⟨k + 1, F', by omega, by simp, hput.out ▸ C1.out, fun b hb => ?_, ?_⟩
        · rcases C2.out b hb with h | h
          · exact A2.out b h
          · right
            have : wr.heap.size ≤ b := h
            omega
        · exact (A3.out.trans (F' := FS) ((But.refl FS wr).drew.trans C3.out (fun _ _ h => h)) (fun i hi hn hF => by
            rcases A2.out i hF with h | h
            · exact hn h
            · omega))
      case measure => simp [intOf]; omega
    · obtain rfl : k = s.files.length := by omega
      go_wp2
      go_ret2
      have e1 : firstF s s.files.length = s := by
        obtain ⟨fs, d⟩ := s
        have : d = 0 := HD.out
        subst this
        simp [firstF]
      rw [e1] at A1
      rw [HSE.out]
      refine ⟨p, q, rfl, FS, Since F W1 W2 q, A1.out, A4.out, fun b hb => ?_, fun b hb => ?_, fun b hb => ⟨fun h => ?_, fun e => ?_⟩, ⟨by omega, by omega⟩, ?_⟩
      · have := A1.out.lt hb
        rcases A2.out b hb with h | h
        · exact ⟨h.1, this⟩
        · exact ⟨by omega, this⟩
      · rcases hb.1 with h | h
        · exact .inl h
        · exact .inr ⟨by have := h.1; omega, by have := h.2; omega⟩
      · have := A5.out b h
        rcases A2.out b hb with h | h <;> omega
      · rcases A2.out b hb with h | h <;> omega
      · exact (HB1.out.trans (HB2.out.mono hs1)).trans (A3.out.below (by omega) (fun b h => h.1))
end Go.Proofs.YtmoebgkfmkdkpaaDoor
