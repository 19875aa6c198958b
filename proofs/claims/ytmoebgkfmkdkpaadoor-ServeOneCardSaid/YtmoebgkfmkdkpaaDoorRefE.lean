/- The document's answer, layer 10: Add, where a file is put in. -/
import Derived.Test.YtmoebgkfmkdkpaaDoorRefD
import Derived.Test.YtmoebgkfmkdkpaaDoorBuilt
import Derived.Deep.RegionHeld3
import Derived.Deep.RegionLaw
namespace Go.Proofs.YtmoebgkfmkdkpaaDoor
open Go.RowKit Go.Proofs
set_option linter.unusedSimpArgs false
set_option linter.unusedVariables false

theorem namedK_one {w : World} {F : Nat → Prop} {x : Int × File} {cs : List Value} (h : namedK.R w F x cs) : ∀ u ∈ cs, u.oneCell' = true := by
  obtain ⟨v, rfl, hv⟩ := h
  obtain ⟨a, c, rfl, _⟩ := hv.open'
  intro u hu
  simp at hu
  rcases hu with rfl | rfl | rfl <;> rfl

/-- The store's list is another one. -/
theorem RefAt.store {w w2 : World} {F G : Nat → Prop} {p base : Nat} {s s' : St} {e : TypeId} {v : Value} {cs : List Value} (hr : RefAt w F p s) (hd : s'.denied = s.denied) (hok : s'.Ok) (hb : Built namedK e w2 base G v s'.files cs) (hG : ∀ b, G b → F b ∨ w.heap.size ≤ b) (hbase : w.heap.size ≤ base) (hbel : Below w.heap.size w w2) :
    RefAt (w2.setCell ⟨p, 0, none⟩ v) (Since F w (w2.setCell ⟨p, 0, none⟩ v) p) p s' ∧ But (· = p) w (w2.setCell ⟨p, 0, none⟩ v) := by
  have hpl := hr.lt
  obtain ⟨v0, h0, _⟩ := hr.cs
  have hl := rising_len hok.rising hok.num
  have hsz : (w2.setCell ⟨p, 0, none⟩ v).heap.size = w2.heap.size := by simp
  have h0' : w2.cell? ⟨p, 0, none⟩ = some v0 := (hbel.cell (p := ⟨p, 0, none⟩) hpl).trans h0
  refine ⟨⟨⟨v, World.cell?_setCell_same _ _ _ h0', ?_⟩, ?_, fun o => ?_, ?_, fun h => h.2 rfl, ?_, hok⟩, ?_⟩
  · have hs := hb.sl (G := Since F w (w2.setCell ⟨p, 0, none⟩ v) p) (by show _ * 40 ≤ big; unfold big; omega) (fun b hb' => by
      rcases hb' with hb' | hb'
      · have h1 := (hb.ap b hb').1
        rcases hG b hb' with h2 | h2
        · exact ⟨.inl h2, fun e => hr.np (e ▸ h2)⟩
        · exact ⟨.inr ⟨h2, by omega⟩, by omega⟩
      · have h1 := hb.lt b hb'
        exact ⟨.inr ⟨by omega, by omega⟩, by omega⟩)
    exact hs.keep fun b hb' => Below.heap_setCell _ _ _ _ hb'.2
  · rw [World.cell?_setCell_other _ _ _ _ (by simp), hd]
    exact (hbel.cell (p := ⟨p, 1, none⟩) hpl).trans hr.c1
  · have : (w2.setCell ⟨p, 0, none⟩ v).frozen? ⟨p, o, none⟩ = w2.frozen? ⟨p, o, none⟩ := by simp
    rw [this]
    exact (hbel.frozen (p := ⟨p, o, none⟩) hpl).trans (hr.fr o)
  · rw [hsz]; have := hbel.size; omega
  · intro b hb'
    rw [hsz]
    rcases hb'.1 with h | h
    · have := hr.flt b h; have := hbel.size; omega
    · have := h.2; omega
  · exact (But.of_below (F := fun b => b = p) hbel).setCell (.inl rfl) _

set_option maxRecDepth 100000 in
set_option maxHeartbeats 4000000 in
theorem ref10_Add_put {w : World} {F : Nat → Prop} {p : Nat} {s : St} (hr : RefAt w F p s) (n : Int) (f : File) (v : Value) (hv : Sl recK w F v f.recs) (hw : f.wf) (h : ¬ (n < 0 ∨ 64 ≤ n)) (hg : f.good = true) (hs : s.get n = none) :
    Calls Tryd.prog 47 #[.pointer (some ⟨p, 0, none⟩), .int .i64 n, .agg #[.int .i64 f.perm, v]] w fun e w' => e = .returned (.int .i64 0) ∧ RefAt w' (Since F w w' p) p (s.put n f) ∧ But (· = p) w w' := by
  have hlen := rising_len hr.ok.rising hr.ok.num
  have hvo : SlO recK w v f.recs := hv.mono hr.flt
  have H := Lib.hid (fun (W : World) (hb : Below w.heap.size w W) => hg ▸ ref09_Good f v W (hvo.up hb))
  have HA := Lib.hid (fun (W : World) (hb : Below w.heap.size w W) => ref10_at (hr.up hb) n)
  have hlook : lookF s.files n = none := hs
  have hp : decide ((0 : Int) ≤ placeF s.files n) = false := by
    rcases atPlace s.files n with ⟨h1, _⟩ | ⟨i, g, h1, _, h3⟩
    · rw [h1]; decide
    · rw [hlook] at h3; cases h3
  have HP := Lib.hid (putF_ahead hr.ok.rising hlook (f := f))
  have HOK := Lib.hid (hr.ok.put (n := n) (f := f) (by omega) hg hw)
  obtain ⟨sv, c0, hsl⟩ := hr.cs
  have hpl := hr.lt
  obtain ⟨sa, sc, rfl, hsc, hsn, hsm, _⟩ := hsl.open'
  obtain ⟨i0, hi, hz0, hz1, hz2⟩ := info_parts info_named
  obtain ⟨a, c, rfl, hc, hn, hm, hb0⟩ := hv.open'
  have hd : decide (n < 0) = false := by simp; omega
  have hd2 : decide (63 < n) = false := by simp; omega
  have hka := ahead_le s.files n
  have HR := Lib.hid hr
  have HS := Lib.hid hsl
  have HV := Lib.hid hv
  clear h hg hv hvo hb0 hs hr hsl hlook hw
  go_enter Tryd.func47, Tryd.ntmps47
  go_wp2_with (first | (go_at_call 46; refine (H.out _ (by (repeat' (first | (with_reducible exact Below.refl _ _) | (with_reducible refine below_ext ?_ ?_ _) | (with_reducible refine below_al ?_ ?_ _) | (with_reducible refine Below.drew ?_) | (with_reducible refine Below.setCell ?_ ?_ _) | (with_reducible assumption) | (first | (with_reducible exact Nat.le_refl _) | omega | (simp only [World.size_alloc, World.size_setCell, World.size_drew] at *; omega) | (simp at *; omega) | (simp; done)))))).mono ?_; rintro e w' ⟨rfl, hb⟩; obtain ⟨x, rfl, hx⟩ := ext_intro hb; clear hb) | (go_at_call 60; refine (HA.out _ (by (repeat' (first | (with_reducible exact Below.refl _ _) | (with_reducible refine below_ext ?_ ?_ _) | (with_reducible refine below_al ?_ ?_ _) | (with_reducible refine Below.drew ?_) | (with_reducible refine Below.setCell ?_ ?_ _) | (with_reducible assumption) | (first | (with_reducible exact Nat.le_refl _) | omega | (simp only [World.size_alloc, World.size_setCell, World.size_drew] at *; omega) | (simp at *; omega) | (simp; done)))))).mono ?_; rintro e w' ⟨rfl, rfl⟩))
  obtain ⟨W1, hW1⟩ : ∃ W1 : World, (grownTo (w.alloc (.cells #[.int .i64 f.perm, .slice a f.recs.length c] 28)) x).alloc (.cells #[] 72) = W1 := ⟨_, rfl⟩
  obtain ⟨B, hB⟩ : ∃ B, (grownTo (w.alloc (.cells #[.int .i64 f.perm, .slice a f.recs.length c] 28)) x).heap.size = B := ⟨_, rfl⟩
  have hB1 : Below w.heap.size w W1 := by rw [← hW1]; (repeat' (first | (with_reducible exact Below.refl _ _) | (with_reducible refine below_ext ?_ ?_ _) | (with_reducible refine below_al ?_ ?_ _) | (with_reducible refine Below.drew ?_) | (with_reducible refine Below.setCell ?_ ?_ _) | (with_reducible assumption) | (first | (with_reducible exact Nat.le_refl _) | omega | (simp only [World.size_alloc, World.size_setCell, World.size_drew] at *; omega) | (simp at *; omega) | (simp; done))))
  have hs1 : W1.heap.size = B + 1 := by rw [← hW1, ← hB]; simp
  have hwB : w.heap.size + 1 ≤ B := by rw [← hB]; simpa using hx
  have b0 : W1.cell? ⟨w.heap.size, 0, none⟩ = some (.int .i64 f.perm) := by rw [← hW1]; simp [go_sem]
  have b1 : W1.cell? ⟨w.heap.size, 1, none⟩ = some (.slice a f.recs.length c) := by rw [← hW1]; simp [go_sem]
  have hO : Built namedK 72 W1 (w.heap.size + 1) F (.slice (some ⟨B, 0, none⟩) 0 0) (s.files.take 0) [] := by
    refine ⟨?_, rfl, fun b hF => ⟨Nat.lt_of_lt_of_le (HR.out.flt b hF) (by omega), ?_⟩⟩
    · have := World.ownsRow_lit (grownTo (w.alloc (.cells #[.int .i64 f.perm, .slice a f.recs.length c] 28)) x) #[] 0 (base := w.heap.size + 1) (e := 72) (size := 3) (by rw [hB]; exact hwB) (by simp [maxLen]) (by simp)
      rw [hB, hW1] at this
      exact this
    · have := HR.out.flt b hF
      intro e
      simp only [Value.ownBlock, Option.some.injEq] at e
      omega
  rw [hW1, hB]
  have HO := Lib.hid hO
  clear hW1 hB hx hO
  go_loopw [7, 8] (fun v i wr => ∃ (k g cap : Nat) (cs : List Value), v = .slice (some ⟨g, 0, none⟩) k cap ∧ k ≤ ahead s.files n ∧ i = .int .i64 k ∧ Built namedK 72 wr (w.heap.size + 1) F v (s.files.take k) cs ∧ Below (w.heap.size + 1) W1 wr)
    (fun _ i _ => s.files.length - (intOf i).toNat)
  case atStart => exact ⟨0, B, 0, [], rfl, Nat.zero_le _, rfl, HO.out, Below.refl _ _⟩
  case round =>
    obtain ⟨k, g, cap, cs, rfl, hk, rfl, hbu, hbl⟩ := hrel
    have hbw : Below w.heap.size w wr := hB1.trans (hbl.mono (by omega))
    have hS2 : Sl namedK wr F (.slice sa s.files.length sc) s.files := HS.out.keep fun b hF => hbw.block b (HR.out.flt b hF)
    have hcs := hbu.own.1
    have hkl : (s.files.take k).length = k := by rw [List.length_take]; omega
    have hown := hbu.own
    rw [hkl] at hown
    have c0' : wr.cell? ⟨p, 0, none⟩ = some (.slice sa s.files.length sc) := (hbw.cell (p := ⟨p, 0, none⟩) hpl).trans c0
    have b0' := (hbl.cell (p := ⟨w.heap.size, 0, none⟩) (Nat.lt_succ_self _)).trans b0
    have b1' := (hbl.cell (p := ⟨w.heap.size, 1, none⟩) (Nat.lt_succ_self _)).trans b1
    have hsz := hbl.size
    have HB := Lib.hid hbu
    have HBL := Lib.hid hbl
    have HBW := Lib.hid hbw
    have HOW := Lib.hid hown
    have HS2 := Lib.hid hS2
    clear hbu hbl hbw hown hS2 hcs hkl c0
    rcases (show k < ahead s.files n ∨ k = ahead s.files n by omega) with hlt | hlt
    · obtain ⟨y, hy, hyn⟩ := ahead_lt hlt
      obtain ⟨bb, o, x', u, rfl, hFb, hbb, hr', d0, d1, d2, hu⟩ := named_cells HS2.out (i := k) (by omega)
      obtain rfl : x' = y := Option.some.inj (hr'.symm.trans hy)
      have hdn : decide (x'.1 < n) = true := by simpa using hyn
      have hkl2 : k < s.files.length := by omega
      have HU := Lib.hid hu
      have HY := Lib.hid hy
      clear hu hr' hy hyn
      go_wp2_with (at_builtin; go_loud (refine wpList_append_lies _ rfl _ _ 42 rfl (w.heap.size + 1) 72 i0 (.agg #[.int .i64 0, .int .i64 0, .slice none 0 0]) 3 40 Tryd.underlying42 hi hz0 hz1 hz2 rfl (by decide) _ k cs rfl (HOW.out.alloc _) ⟨wr.heap.size, 0, none⟩ 1 1 [.int .i64 x'.1, .int .i64 x'.2.perm, u] rfl rfl (cells_new _ _ _) (by obtain ⟨a9, c9, e9, _⟩ := HU.out.open'; subst e9; intro u hu; simp at hu; rcases hu with rfl | rfl | rfl <;> rfl) (by decide) (by unfold maxLen; omega) (by omega) (by simp; omega) _ rfl ?_; intro g3 cap3 w2 hown3 hgrow hlies hlt3; have C1 := Lib.hid hown3; have C2 := Lib.hid hgrow; have C3 := Lib.hid hlies; have C4 := Lib.hid hlt3; clear hown3 hgrow hlies hlt3))
      go_roundw
      case rel =>
        have bw : Below wr.heap.size wr (wr.alloc (.cells #[.int .i64 x'.1, .int .i64 x'.2.perm, u] 72)) := by (repeat' (first | (with_reducible exact Below.refl _ _) | (with_reducible refine below_ext ?_ ?_ _) | (with_reducible refine below_al ?_ ?_ _) | (with_reducible refine Below.drew ?_) | (with_reducible refine Below.setCell ?_ ?_ _) | (with_reducible assumption) | (first | (with_reducible exact Nat.le_refl _) | omega | (simp only [World.size_alloc, World.size_setCell, World.size_drew] at *; omega) | (simp at *; omega) | (simp; done))))
        refine ⟨k + 1, g3, cap3, _, rfl, by omega, by simp, HB.out.snoc (G := F) HY.out bw ⟨u, rfl, HU.out.keep fun b hF => bw.block b (Nat.lt_of_lt_of_le (HR.out.flt b hF) (by omega))⟩ (fun b hF => ⟨Nat.lt_of_lt_of_le (HR.out.flt b hF) (by simp; omega), (HB.out.ap b hF).2⟩) (fun b => by simp) C1.out C2.out (C3.out.imp id (fun e => by rw [e]; simp)), ?_⟩
        exact HB.out.below (Nat.le_refl _) (HBL.out.alloc (by omega) _) (by simp; omega) C2.out
      case measure => simp [intOf]; omega
    · subst hlt
      have hdn : ahead s.files n < s.files.length → ∃ y, s.files[ahead s.files n]? = some y ∧ decide (y.1 < n) = false := fun h => by
        obtain ⟨y, hy⟩ : ∃ y, s.files[ahead s.files n]? = some y := ⟨_, List.getElem?_eq_getElem h⟩
        exact ⟨y, hy, by simpa using ahead_at hy⟩
      by_cases hend : ahead s.files n < s.files.length
      · obtain ⟨y, hy, hyn⟩ := hdn hend
        obtain ⟨bb, o, x', u, rfl, hFb, hbb, hr', d0, d1, d2, hu⟩ := named_cells HS2.out (i := ahead s.files n) hend
        obtain rfl : x' = y := Option.some.inj (hr'.symm.trans hy)
        obtain ⟨bb', o', csL, e9, hFb', _, hL, hcl, hcc⟩ := HS2.out.flat_cells (by omega)
        cases e9
        have hnw : ∀ j u, (csL.drop (ahead s.files n * 3))[j]? = some u → wr.cell? ((⟨bb, o + ahead s.files n * 3, none⟩ : Addr).add j) = some u := fun j u hu => by
          rw [List.getElem?_drop] at hu
          rw [Addr.add_lit, Nat.add_assoc]
          have := hcc _ u hu
          rw [Addr.add_lit] at this
          exact this
        have hnl : (csL.drop (ahead s.files n * 3)).length = (s.files.length - ahead s.files n) * 3 := by rw [List.length_drop, hcl, show namedK.sz = 3 from rfl, Nat.sub_mul]
        have hn1 : ∀ u ∈ csL.drop (ahead s.files n * 3), u.oneCell' = true := fun u hu => Kd.L_oneCell namedK_one hL u (List.mem_of_mem_drop hu)
        have hLd := Kd.L_drop (ahead s.files n) hL
        rw [show namedK.sz = 3 from rfl] at hLd
        have hck : ¬ sc = ahead s.files n := by omega
        have hbv' := (HB.out.ap bb hFb).2
        have hk1 : ahead s.files n ≤ s.files.length := by omega
        have HNW := Lib.hid hnw
        have HNL := Lib.hid hnl
        have HN1 := Lib.hid hn1
        have HLD := Lib.hid hLd
        clear hdn hk hka hnw hnl hn1 hLd hL hcl hcc hu hr' hy
        generalize hkk : ahead s.files n = k at HOW HB HNW HNL HN1 HLD HP hend hck hyn hk1 hbv' d0 d1 d2 ⊢
        clear hkk
        go_wp2
        have hfr := (fun o => (World.frozen?_of_block (w := w) (a := ⟨p, o, none⟩) (HBW.out.block p hpl)).trans (HR.out.fr o))
        have hpv : (Value.slice (some ⟨g, 0, none⟩) k cap).ownBlock ≠ some p := fun e => by have := HB.out.lt p e; omega
        have hbv : (Value.slice (some ⟨g, 0, none⟩) k cap).ownBlock ≠ some w.heap.size := fun e => by have := HB.out.lt _ e; omega
        have hpw : p < wr.heap.size := by omega
        have hww : w.heap.size < wr.heap.size := by omega
        go_region_law (first
            | (refine step_append_lies _ (by rfl) (.tmp 58) (.tmp 62) _ (by rfl) (w.heap.size + 1) 72 i0 (.agg #[.int .i64 0, .int .i64 0, .slice none 0 0]) 3 40 Tryd.underlying42 hi hz0 hz1 hz2 rfl (by decide) _ k cs (by rfl) ((HOW.out.alloc _).drew) ⟨wr.heap.size, 0, none⟩ 1 1 [.int .i64 n, .int .i64 f.perm, .slice a f.recs.length c] (by rfl) (by rfl) (World.news_of_block (cs := #[.int .i64 n, .int .i64 f.perm, .slice a f.recs.length c]) (t := 72) (fr := (0, 0)) (heap_alloc_new wr _)) (by simp [Value.oneCell']) (by decide) (by unfold maxLen; omega) (by omega) (by simp <;> omega) (wr.heap.size + 1) (by simp) ?_; intro g3 cap3 w2 hown3 hgrow hlies hlt3; have hz3 := hgrow.cell_far ⟨p, 0, none⟩ (by simp; omega) (Ne.symm hpv); have hz4 := fun o => hgrow.cell_far ⟨w.heap.size, o, none⟩ (by simp; omega) (Ne.symm hbv); have hq2 : w2.frozen? ⟨p, 0, none⟩ = false := by (rw [hgrow.frozen_far _ (by simp <;> omega) (Ne.symm hpv)]; simp [go_sem, hpw, hfr]))
            | (refine step_append_lies _ (by rfl) (.tmp 63) (.tmp 69) _ (by rfl) (w.heap.size + 1) 72 i0 (.agg #[.int .i64 0, .int .i64 0, .slice none 0 0]) 3 40 Tryd.underlying42 hi hz0 hz1 hz2 rfl (by decide) _ _ _ (by rfl) hown3 ⟨bb, o + k * 3, none⟩ (s.files.length - k) _ _ (by rfl) HNL.out (fun j u hu => (hgrow.cell_far _ (by rw [Addr.add_lit]; simp; omega) (by rw [Addr.add_lit]; exact Ne.symm hbv')).trans (by rw [World.cell?_drew, World.cell?_alloc_lt _ _ _ (by rw [Addr.add_lit]; exact hbb)]; exact HNW.out j u hu)) HN1.out (by omega) (by unfold maxLen; omega) (by omega) (by have := hgrow.size; simp at this; omega) w2.heap.size rfl ?_; intro g4 cap4 w3 hown4 hgrow4 hlies4 hlt4; have hvp : (Value.slice (some ⟨g3, 0, none⟩) (k + 1) cap3).ownBlock ≠ some p := (by intro e; simp only [Value.ownBlock, Option.some.injEq] at e; subst e; rcases hlies with e | e <;> first | exact hpv e | omega); have hq4 : w3.frozen? ⟨p, 0, none⟩ = false := (by (rw [hgrow4.frozen_far ⟨p, 0, none⟩ (Nat.lt_of_lt_of_le hpw (by have := hgrow.size; simp at this; omega)) (Ne.symm hvp)]; exact hq2)); have hz5 := hgrow4.cell_far ⟨p, 0, none⟩ (Nat.lt_of_lt_of_le hpw (by have := hgrow.size; simp at this; omega)) (Ne.symm hvp)))
        all_goals go_wp2
        all_goals
          go_returns
          refine ⟨rfl, ?_⟩
          have bw : Below wr.heap.size wr (wr.alloc (.cells #[.int .i64 n, .int .i64 f.perm, .slice a f.recs.length c] 72)).drew := by (repeat' (first | (with_reducible exact Below.refl _ _) | (with_reducible refine below_ext ?_ ?_ _) | (with_reducible refine below_al ?_ ?_ _) | (with_reducible refine Below.drew ?_) | (with_reducible refine Below.setCell ?_ ?_ _) | (with_reducible assumption) | (first | (with_reducible exact Nat.le_refl _) | omega | (simp only [World.size_alloc, World.size_setCell, World.size_drew] at *; omega) | (simp at *; omega) | (simp; done))))
          have hkl : (s.files.take k).length = k := by rw [List.length_take]; omega
          have hb1 := (HB.out.more (ys := [(n, f)]) (G := F) bw (Kd.L_one ⟨_, rfl, HV.out.keep fun b hF => (bw.block b (Nat.lt_of_lt_of_le (HR.out.flt b hF) (by omega))).trans (HBW.out.block b (HR.out.flt b hF))⟩) (fun b hF => ⟨Nat.lt_of_lt_of_le (HR.out.flt b hF) (by simp; omega), (HB.out.ap b hF).2⟩) (by rw [hkl]; exact hown3) hgrow (hlies.imp id (fun e => by rw [e]; simp)))
          have hb1' := hb1.mono (G := F) (fun b hb => hb.elim id id) (fun b hb => hb1.ap b (.inl hb))
          rw [show (s.files.take k ++ [(n, f)]).length = k + 1 by rw [List.length_append, hkl]; rfl] at hb1'
          have hs2 : wr.heap.size + 1 ≤ w2.heap.size := by have := hgrow.size; simpa using this
          have e3 : ∀ b, F b → w2.heap[b]? = wr.heap[b]? := fun b hF => (hgrow.block b (Nat.lt_of_lt_of_le (HR.out.flt b hF) (by simp; omega)) (fun e => (HB.out.ap b hF).2 e.symm)).trans (bw.block b (Nat.lt_of_lt_of_le (HR.out.flt b hF) (by omega)))
          have hbu := hb1'.more (G := F) (Below.refl _ _) (Kd.L_keep HLD.out e3) (fun b hF => hb1'.ap b hF) (by rw [List.length_append, hkl, List.length_drop]; exact hown4) hgrow4 (hlies4.imp id (fun e => by omega))
          have e1 : (s.put n f).files = (s.files.take k ++ [(n, f)]) ++ s.files.drop k := by
            rw [List.append_assoc]
            exact HP.out
          rw [← e1] at hbu
          rw [show k + 1 + (s.files.length - k) = (s.put n f).files.length by rw [e1]; simp; omega]
          have hbel : Below w.heap.size w w2 := (HBW.out.trans (bw.mono (by omega))).grown hgrow (by simp; omega) (fun b e => by have := HB.out.lt b e; omega)
          exact HR.out.store rfl HOK.out hbu (fun b hb => .inl (hb.elim id id)) (by omega) (hbel.grown hgrow4 hbel.size (fun b e => by have := hb1'.lt b e; omega))
      · have hend2 : ahead s.files n = s.files.length := by omega
        have HP2 := Lib.hid (show putF s.files n f = s.files.take s.files.length ++ [(n, f)] by rw [HP.out, hend2]; simp)
        rw [hend2] at HOW HB ⊢
        clear hdn hend hend2 hk hka
        go_wp2
        have hfr := (fun o => (World.frozen?_of_block (w := w) (a := ⟨p, o, none⟩) (HBW.out.block p hpl)).trans (HR.out.fr o))
        have hpv : (Value.slice (some ⟨g, 0, none⟩) s.files.length cap).ownBlock ≠ some p := fun e => by have := HB.out.lt p e; omega
        have hbv : (Value.slice (some ⟨g, 0, none⟩) s.files.length cap).ownBlock ≠ some w.heap.size := fun e => by have := HB.out.lt _ e; omega
        have hpw : p < wr.heap.size := by omega
        have hww : w.heap.size < wr.heap.size := by omega
        go_region_law (first
            | (refine step_append_lies _ (by rfl) (.tmp 58) (.tmp 62) _ (by rfl) (w.heap.size + 1) 72 i0 (.agg #[.int .i64 0, .int .i64 0, .slice none 0 0]) 3 40 Tryd.underlying42 hi hz0 hz1 hz2 rfl (by decide) _ s.files.length cs (by rfl) ((HOW.out.alloc _).drew) ⟨wr.heap.size, 0, none⟩ 1 1 [.int .i64 n, .int .i64 f.perm, .slice a f.recs.length c] (by rfl) (by rfl) (World.news_of_block (cs := #[.int .i64 n, .int .i64 f.perm, .slice a f.recs.length c]) (t := 72) (fr := (0, 0)) (heap_alloc_new wr _)) (by simp [Value.oneCell']) (by decide) (by unfold maxLen; omega) (by omega) (by simp <;> omega) (wr.heap.size + 1) (by simp) ?_; intro g3 cap3 w2 hown3 hgrow hlies hlt3; have hz3 := hgrow.cell_far ⟨p, 0, none⟩ (by simp; omega) (Ne.symm hpv); have hz4 := fun o => hgrow.cell_far ⟨w.heap.size, o, none⟩ (by simp; omega) (Ne.symm hbv); have hq2 : w2.frozen? ⟨p, 0, none⟩ = false := by (rw [hgrow.frozen_far _ (by simp <;> omega) (Ne.symm hpv)]; simp [go_sem, hpw, hfr]))
            | go_loud (refine step_append_zero (by rfl) (.tmp 63) (.tmp 69) _ (by rfl) (w.heap.size + 1) 72 i0 3 Tryd.underlying42 hi _ _ _ (by rfl) hown3 _ _ _ (by rfl) (by simp) ?_))
        all_goals go_wp2
        all_goals
          go_returns
          refine ⟨rfl, ?_⟩
          have bw : Below wr.heap.size wr (wr.alloc (.cells #[.int .i64 n, .int .i64 f.perm, .slice a f.recs.length c] 72)).drew := by (repeat' (first | (with_reducible exact Below.refl _ _) | (with_reducible refine below_ext ?_ ?_ _) | (with_reducible refine below_al ?_ ?_ _) | (with_reducible refine Below.drew ?_) | (with_reducible refine Below.setCell ?_ ?_ _) | (with_reducible assumption) | (first | (with_reducible exact Nat.le_refl _) | omega | (simp only [World.size_alloc, World.size_setCell, World.size_drew] at *; omega) | (simp at *; omega) | (simp; done))))
          have e1 : (s.put n f).files = s.files.take s.files.length ++ [(n, f)] := by
            exact HP2.out
          have hbu := (HB.out.more (ys := [(n, f)]) (G := F) bw (Kd.L_one ⟨_, rfl, HV.out.keep fun b hF => (bw.block b (Nat.lt_of_lt_of_le (HR.out.flt b hF) (by omega))).trans (HBW.out.block b (HR.out.flt b hF))⟩) (fun b hF => ⟨Nat.lt_of_lt_of_le (HR.out.flt b hF) (by simp; omega), (HB.out.ap b hF).2⟩) (by rw [List.take_length]; exact hown3) hgrow (hlies.imp id (fun e => by rw [e]; simp)))
          rw [← e1] at hbu
          rw [show s.files.length + 1 = (s.put n f).files.length by rw [e1]; simp]
          exact HR.out.store rfl HOK.out hbu (fun b hb => .inl (hb.elim id id)) (by omega) ((HBW.out.trans (bw.mono (by omega))).grown hgrow (by simp; omega) (fun b e => by have := HB.out.lt b e; omega))
end Go.Proofs.YtmoebgkfmkdkpaaDoor
