/- The document's answer, layer 14: Store. -/
import Derived.Test.YtmoebgkfmkdkpaaDoorRefE
import Derived.Test.YtmoebgkfmkdkpaaDoorTail
namespace Go.Proofs.YtmoebgkfmkdkpaaDoor
open Go.RowKit Go.Proofs
set_option linter.unusedSimpArgs false
set_option linter.unusedVariables false

/-- A file put in, if it may be. -/
def addOne (s : St) (x : Int × File) : St := if x.2.good then (s.add x.1 x.2).1 else s
def stOf (l : List (Int × File)) : St := (l.take 8).foldl addOne .empty
theorem addOne_ok {s : St} (h : s.Ok) {x : Int × File} (hw : x.2.wf) : (addOne s x).Ok := by
  unfold addOne
  split
  · exact h.add _ hw
  · exact h
theorem foldl_ok : ∀ (l : List (Int × File)) (s : St), s.Ok → (∀ x ∈ l, x.2.wf) → (l.foldl addOne s).Ok
  | [], _, h, _ => h
  | x :: l, s, h, hw => foldl_ok l _ (addOne_ok h (hw x (by simp))) (fun y hy => hw y (by simp [hy]))
theorem stOf_ok {l : List (Int × File)} (hw : ∀ x ∈ l, x.2.wf) : (stOf l).Ok := foldl_ok _ _ St.empty_ok (fun x hx => hw x (List.mem_of_mem_take hx))

/-- What Add comes to. -/
theorem ref10_Add {w : World} {F : Nat → Prop} {p : Nat} {s : St} (hr : RefAt w F p s) (n : Int) (f : File) (v : Value) (hv : Sl recK w F v f.recs) (hw : f.wf) :
    Calls Tryd.prog 47 #[.pointer (some ⟨p, 0, none⟩), .int .i64 n, .agg #[.int .i64 f.perm, v]] w fun e w' => e = .returned (.int .i64 (s.add n f).2) ∧ RefAt w' (Since F w w' p) p (s.add n f).1 ∧ But (· = p) w w' := by
  have fin : ∀ {e : Ending} {w' : World} {k : Int}, (e = .returned (.int .i64 k) ∧ Below w.heap.size w w') → e = .returned (.int .i64 k) ∧ RefAt w' (Since F w w' p) p s ∧ But (· = p) w w' := fun ⟨h1, h2⟩ =>
    ⟨h1, (hr.up h2).mono (fun b hb => ⟨.inl hb, fun e => hr.np (e ▸ hb)⟩) (fun h => h.2 rfl) (fun b hb => hb.1.elim (fun h => Nat.lt_of_lt_of_le (hr.flt b h) h2.size) (fun h => h.2)), But.of_below h2⟩
  have hvo : SlO recK w v f.recs := hv.mono hr.flt
  unfold St.add
  by_cases h1 : n < 0 ∨ 64 ≤ n
  · rw [if_pos h1]
    obtain ⟨a, c, rfl, _⟩ := hv.open'
    exact (ref10_Add_num _ n f.perm a _ c h1).mono fun _ _ h => fin h
  · rw [if_neg h1]
    by_cases h2 : f.good = false
    · rw [if_pos h2]
      exact (ref10_Add_form _ n f v hvo h1 h2).mono fun _ _ h => fin h
    · rw [if_neg h2]
      have h2' : f.good = true := by simpa using h2
      by_cases h3 : (s.get n).isSome
      · rw [if_pos h3]
        exact (ref10_Add_there hr n f v hvo h1 h2' h3).mono fun _ _ h => fin h
      · rw [if_neg h3]
        exact (ref10_Add_put hr n f v hv hw h1 h2' (by simpa using h3)).mono fun _ _ h => h

/-- The same, since w, in a world behind. -/
theorem sinceUp {F : Nat → Prop} {w wr W : World} {p : Nat} {s : St} (h : RefAt W (Since F w wr p) p s) (hb : Below wr.heap.size wr W) (hs : w.heap.size ≤ wr.heap.size) : RefAt W (Since F w W p) p s :=
  h.mono (fun b hb' => ⟨hb'.1.imp id fun h => ⟨h.1, Nat.lt_of_lt_of_le h.2 hb.size⟩, hb'.2⟩) (fun h => h.2 rfl) (fun b hb' => by
    rcases hb'.1 with h1 | h1
    · exact h.flt b ⟨.inl h1, hb'.2⟩
    · exact h1.2)
/-- The list's files lead to old blocks alone. -/
def OldK (w : World) (F : Nat → Prop) : Prop := ∀ b, F b → b < w.heap.size

set_option maxRecDepth 100000 in
set_option maxHeartbeats 4000000 in
theorem ref14_Store {w : World} {F : Nat → Prop} (hF : OldK w F) (l : List (Int × File)) (v : Value) (hv : Sl namedK w F v l) (hw : ∀ x ∈ l, x.2.wf) :
    Calls Tryd.prog 28 #[v] w fun e w' => ∃ p, e = .returned (.pointer (some ⟨p, 0, none⟩)) ∧ New w w' p ∧ RefAt w' (Since F w w' p) p (stOf l) ∧ Below w.heap.size w w' := by
  obtain ⟨a, c, rfl, hc, hn, hm, _⟩ := hv.open'
  have HV := Lib.hid hv
  have HW := Lib.hid hw
  have HF := Lib.hid hF
  clear hv hw hF
  go_enter Tryd.func28, Tryd.ntmps28
  go_wp2
  have hR0 : RefAt (w.alloc (.cells #[.slice none 0 0, .int .i64 0] 76)) (Since F w (w.alloc (.cells #[.slice none 0 0, .int .i64 0] 76)) w.heap.size) w.heap.size ((l.take 0).foldl addOne .empty) := by
    refine ⟨⟨.slice none 0 0, by simp [go_sem], Sl.nil⟩, by simp [go_sem]; rfl, fun o => by simp [go_sem], by simp, fun h => h.2 rfl, fun b hb => ?_, St.empty_ok⟩
    rcases hb.1 with h | h
    · exact Nat.lt_of_lt_of_le (HF.out b h) (by simp)
    · exact h.2
  have HR0 := Lib.hid hR0
  clear hR0
  go_loopw [4] (fun i wr => ∃ k : Nat, k ≤ l.length ∧ k ≤ 8 ∧ i = .int .i64 k ∧ RefAt wr (Since F w wr w.heap.size) w.heap.size ((l.take k).foldl addOne .empty) ∧ Below w.heap.size w wr)
    (fun i _ => l.length - (intOf i).toNat)
  case atStart => exact ⟨0, Nat.zero_le _, by omega, rfl, HR0.out, by (repeat' (first | (with_reducible exact Below.refl _ _) | (with_reducible refine below_ext ?_ ?_ _) | (with_reducible refine below_al ?_ ?_ _) | (with_reducible refine Below.drew ?_) | (with_reducible refine Below.setCell ?_ ?_ _) | (with_reducible assumption) | (first | (with_reducible exact Nat.le_refl _) | omega | (simp only [World.size_alloc, World.size_setCell, World.size_drew] at *; omega) | (simp at *; omega) | (simp; done))))⟩
  case round =>
    obtain ⟨k, hk, hk8, rfl, hr, hb⟩ := hrel
    have hsz := hb.size
    have HR := Lib.hid hr
    have HB := Lib.hid hb
    clear hr hb
    by_cases hlt : k < l.length
    · by_cases hlt8 : k < 8
      · have hsl : Sl namedK wr F (.slice a l.length c) l := HV.out.keep fun b hb => HB.out.block b (HF.out b hb)
        obtain ⟨bb, o, x, u, rfl, hFb, hbb, hx, d0, d1, d2, hu⟩ := named_cells hsl hlt
        obtain ⟨n, f⟩ := x
        dsimp only at d0 d1 d2 hu
        have hwf := HW.out _ (List.mem_of_getElem? hx)
        have hG := Lib.hid (fun (W : World) (hW : Below wr.heap.size wr W) => ref09_Good f u W (SlO.up (hu.mono fun b hb => Nat.lt_of_lt_of_le (HF.out b hb) hsz) hW))
        have e1 : l.take (k + 1) = l.take k ++ [(n, f)] := by rw [List.take_add_one, hx]; rfl
        have E1 := Lib.hid e1
        have HU := Lib.hid hu
        have HWF := Lib.hid hwf
        have HX := Lib.hid hx
        obtain ⟨ua, uc, rfl, _⟩ := hu.open'
        clear hu hwf hx e1 hsl
        have hn1 : (0 : Int) ≤ (k : Int) := by omega
        have hn2 : (k : Int) < (l.length : Int) := by omega
        cases hg : f.good with
        | false =>
          rw [hg] at hG
          have HGD := Lib.hid hg
          clear hg
          go_wp2_with (go_at_call 46; refine (hG.out _ (by (repeat' (first | (with_reducible exact Below.refl _ _) | (with_reducible refine below_ext ?_ ?_ _) | (with_reducible refine below_al ?_ ?_ _) | (with_reducible refine Below.drew ?_) | (with_reducible refine Below.setCell ?_ ?_ _) | (with_reducible assumption) | (first | (with_reducible exact Nat.le_refl _) | omega | (simp only [World.size_alloc, World.size_setCell, World.size_drew] at *; omega) | (simp at *; omega) | (simp; done)))))).mono ?_; rintro e w' ⟨rfl, hb⟩; obtain ⟨x, rfl, hx⟩ := ext_intro hb; clear hb)
          go_roundw
          case rel =>
            refine ⟨k + 1, by omega, by omega, by simp, ?_, HB.out.trans (Below.mono (by (repeat' (first | (with_reducible exact Below.refl _ _) | (with_reducible refine below_ext ?_ ?_ _) | (with_reducible refine below_al ?_ ?_ _) | (with_reducible refine Below.drew ?_) | (with_reducible refine Below.setCell ?_ ?_ _) | (with_reducible assumption) | (first | (with_reducible exact Nat.le_refl _) | omega | (simp only [World.size_alloc, World.size_setCell, World.size_drew] at *; omega) | (simp at *; omega) | (simp; done))))) hsz)⟩
            rw [E1.out, List.foldl_append]
            show RefAt _ _ _ (addOne _ (n, f))
            rw [show addOne ((l.take k).foldl addOne .empty) (n, f) = (l.take k).foldl addOne .empty by unfold addOne; dsimp only; rw [HGD.out]; rfl]
            exact sinceUp (HR.out.up (by (repeat' (first | (with_reducible exact Below.refl _ _) | (with_reducible refine below_ext ?_ ?_ _) | (with_reducible refine below_al ?_ ?_ _) | (with_reducible refine Below.drew ?_) | (with_reducible refine Below.setCell ?_ ?_ _) | (with_reducible assumption) | (first | (with_reducible exact Nat.le_refl _) | omega | (simp only [World.size_alloc, World.size_setCell, World.size_drew] at *; omega) | (simp at *; omega) | (simp; done)))))) (by (repeat' (first | (with_reducible exact Below.refl _ _) | (with_reducible refine below_ext ?_ ?_ _) | (with_reducible refine below_al ?_ ?_ _) | (with_reducible refine Below.drew ?_) | (with_reducible refine Below.setCell ?_ ?_ _) | (with_reducible assumption) | (first | (with_reducible exact Nat.le_refl _) | omega | (simp only [World.size_alloc, World.size_setCell, World.size_drew] at *; omega) | (simp at *; omega) | (simp; done))))) (by (first | (with_reducible exact Nat.le_refl _) | omega | (simp only [World.size_alloc, World.size_setCell, World.size_drew] at *; omega) | (simp at *; omega) | (simp; done)))
          case measure => simp [intOf]; omega
        | true =>
          rw [hg] at hG
          have HGD := Lib.hid hg
          clear hg
          go_wp2_with (go_at_call 46; refine (hG.out _ (by (repeat' (first | (with_reducible exact Below.refl _ _) | (with_reducible refine below_ext ?_ ?_ _) | (with_reducible refine below_al ?_ ?_ _) | (with_reducible refine Below.drew ?_) | (with_reducible refine Below.setCell ?_ ?_ _) | (with_reducible assumption) | (first | (with_reducible exact Nat.le_refl _) | omega | (simp only [World.size_alloc, World.size_setCell, World.size_drew] at *; omega) | (simp at *; omega) | (simp; done)))))).mono ?_; rintro e w' ⟨rfl, hb⟩; obtain ⟨x, rfl, hx⟩ := ext_intro hb; clear hb)
          refine wp_region_tail 7 (by kernel_rfl) (by kernel_rfl) ?_; simp only [List.take_succ_cons, List.take_zero, List.drop_succ_cons, List.drop_zero]; (repeat still_step); (try refine wpStill_nil ?_)
          go_wp2_with (go_at_call 47; refine Hid.out ?_)
          have bw : Below wr.heap.size wr (grownTo (wr.alloc (.cells #[.int .i64 f.perm, .slice ua f.recs.length uc] 28)) x).drew := by (repeat' (first | (with_reducible exact Below.refl _ _) | (with_reducible refine below_ext ?_ ?_ _) | (with_reducible refine below_al ?_ ?_ _) | (with_reducible refine Below.drew ?_) | (with_reducible refine Below.setCell ?_ ?_ _) | (with_reducible assumption) | (first | (with_reducible exact Nat.le_refl _) | omega | (simp only [World.size_alloc, World.size_setCell, World.size_drew] at *; omega) | (simp at *; omega) | (simp; done))))
          refine Lib.hid ((ref10_Add (HR.out.up bw) n f _ ((HU.out.keep fun b hb => bw.block b (Nat.lt_of_lt_of_le (HF.out b hb) hsz)).mono fun b hb => ⟨.inl hb, fun e => by have := HF.out b hb; omega⟩) HWF.out).mono ?_)
          rintro e W2 ⟨rfl, hR2, hB2⟩
          have hs2 := hB2.size
          have hR3 := Lib.hid hR2
          have hB3 := Lib.hid hB2
          have hbs := bw.size
          clear hR2 hB2
          go_wp2
          go_roundw
          case rel =>
            refine ⟨k + 1, by omega, by omega, by simp, ?_, HB.out.trans ((bw.mono hsz).trans (hB3.out.below (by omega) (fun b e => by omega)))⟩
            rw [E1.out, List.foldl_append]
            show RefAt _ _ _ (addOne _ (n, f))
            rw [show addOne ((l.take k).foldl addOne .empty) (n, f) = (((l.take k).foldl addOne .empty).add n f).1 by unfold addOne; dsimp only; rw [HGD.out]; rfl]
            refine hR3.out.mono (fun b hb' => ⟨?_, hb'.2⟩) (fun h => h.2 rfl) (fun b hb' => ?_)
            · rcases hb'.1 with h | h
              · exact h.1.imp id fun h => ⟨h.1, by have := h.2; omega⟩
              · exact .inr ⟨by have := h.1; omega, h.2⟩
            · rcases hb'.1 with h | h
              · have := HF.out b h; omega
              · exact h.2
          case measure => simp [intOf]; omega
      · have h8 : k = 8 := by omega
        subst h8
        go_wp2
        go_returns
        exact ⟨_, rfl, ⟨Nat.le_refl _, by have := HR.out.lt; omega⟩, HR.out, HB.out⟩
    · have hkl : k = l.length := by omega
      subst hkl
      go_wp2
      go_returns
      refine ⟨_, rfl, ⟨Nat.le_refl _, by have := HR.out.lt; omega⟩, ?_, HB.out⟩
      have := HR.out
      rw [List.take_length] at this
      unfold stOf
      rw [List.take_of_length_le (by omega)]
      exact this
end Go.Proofs.YtmoebgkfmkdkpaaDoor
