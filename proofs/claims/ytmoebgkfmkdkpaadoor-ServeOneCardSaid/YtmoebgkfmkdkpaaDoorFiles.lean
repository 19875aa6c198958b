/- ifs: Files. -/
import Derived.Test.YtmoebgkfmkdkpaaDoorKeys
import Derived.Deep.AppendLies
namespace Go.Proofs.YtmoebgkfmkdkpaaDoor
open Go.RowKit Go.Proofs
set_option linter.unusedSimpArgs false
set_option linter.unusedVariables false

/-- A file and its number. -/
def namedK : Kd (Int × File) where
  sz := 3
  bytes := 40
  pos := by decide
  R := fun w F x cs => ∃ v, cs = [.int .i64 x.1, .int .i64 x.2.perm, v] ∧ Sl recK w F v x.2.recs
  len := fun ⟨_, e, _⟩ => by simp [e]
  keep := fun ⟨v, e, h⟩ hk => ⟨v, e, h.keep hk⟩
  mono := fun ⟨v, e, h⟩ hk => ⟨v, e, h.mono hk⟩
theorem RecOwn.sl {w : World} {base : Nat} {v : Value} {f : File} {F : Nat → Prop} (h : RecOwn w base v f.recs) (hg : f.good = true) (hF : ∀ b, v.ownBlock = some b → F b) : Sl recK w F v f.recs := by
  have hl := (good_head hg).2.1
  rcases h with ⟨h1, _⟩ | ⟨g, rfl, h2, h3, _⟩
  · rw [h1] at hl; simp at hl
  · exact h3.sl (hF g rfl) (Nat.le_refl _) (by unfold maxLen; omega) (by unfold big; omega)
theorem info_named : (Tryd.prog.info? 72).map (fun i => (i.zero, i.size, i.bytes)) = some (some (.agg #[.int .i64 0, .int .i64 0, .slice none 0 0]), 3, 40) := by kernel_rfl

theorem ifs_Files_nil (w : World) : Calls Tryd.prog 12 #[.pointer none] w fun e w' => e = .returned (.slice none 0 0) ∧ Below w.heap.size w w' := by
  go_enter Tryd.func12, Tryd.ntmps12
  go_wp2
  go_returns
  exact ⟨rfl, by (repeat' (first | (with_reducible exact Below.refl _ _) | (with_reducible refine below_ext ?_ ?_ _) | (with_reducible refine below_al ?_ ?_ _) | (with_reducible refine Below.drew ?_) | (with_reducible refine Below.setCell ?_ ?_ _) | (with_reducible assumption) | (first | (with_reducible exact Nat.le_refl _) | omega | (simp only [World.size_alloc, World.size_setCell, World.size_drew] at *; omega) | (simp at *; omega) | (simp; done))))⟩
theorem named_Clip (a : Option Addr) (n c : Nat) (hn : n ≤ c) (hc : c ≤ 9223372036854775807) (w : World) :
    Calls Tryd.prog 27 #[.slice a n c] w fun e w' => e = .returned (.slice a n n) ∧ w = w' := by
  go_enter Tryd.func27, Tryd.ntmps27
  go_wp2
  go_returns
  exact ⟨rfl, rfl⟩

theorem ifs_Files_empty {w : World} {F : Nat → Prop} {p : Nat} {s : St} (h : StoreAt w F p s) (h0 : s.files = []) :
    Calls Tryd.prog 12 #[.pointer (some ⟨p, 0, none⟩)] w fun e w' => e = .returned (.slice none 0 0) ∧ Below w.heap.size w w' := by
  obtain ⟨m, G, h⟩ := h
  have hpl := h.lt p h.fp
  have c0 := h.c0
  have HK := Lib.hid (keys_call m w)
  have HS := Lib.hid (sorted_call h)
  have H0 := Lib.hid h0
  clear h h0
  go_enter Tryd.func12, Tryd.ntmps12
  go_wp2_with (first | (go_at_call 26; refine HK.out.mono ?_; rintro e w' ⟨rfl, rfl⟩) | (go_at_call 25; refine HS.out.mono ?_; rintro e W1 ⟨v, rfl, hrow, hnil, hb⟩; obtain rfl := hnil.2 H0.out; clear hrow hnil; have hb' := Lib.hid hb; clear hb))
  refine wp_loop_rounds 1 ?_
  rw [rounds_succ]
  go_wp2_with (go_at_call 27; refine (named_Clip none 0 0 (Nat.le_refl _) (by omega) _).mono ?_; rintro e w' ⟨rfl, rfl⟩)
  go_returns
  exact ⟨rfl, ((Below.refl _ w).alloc (Nat.le_refl _) _).trans (hb'.out.mono (by omega))⟩

theorem ownsRow_up {w w' : World} {base : Nat} {e : TypeId} {size n : Nat} {v : Value} {xs : List Value} (h : w.ownsRow base e size v n xs) (hb : Below w.heap.size w w') : w'.ownsRow base e size v n xs :=
  h.kept (row := none) ⟨hb.os, hb.tape, hb.output, hb.size, fun i hi _ => hb.block i hi⟩ (by cases v.ownBlock <;> simp)
theorem cells_new (w : World) (xs : List Value) (t : TypeId) : ∀ j u, xs[j]? = some u → (w.alloc (.cells xs.toArray t)).cell? ((⟨w.heap.size, 0, none⟩ : Addr).add j) = some u := by
  intro j u hu
  rw [Addr.add_lit, cell?_alloc_if, if_neg (Nat.lt_irrefl _), if_pos rfl]
  simpa [cellAt] using hu

/-- What a round of the loop knows. -/
def FilesInv (w W1 : World) (s : St) (kb : Nat) (k : Nat) (v : Value) (wr : World) : Prop :=
  ∃ (cs : List Value) (Fk : Nat → Prop), wr.ownsRow w.heap.size 72 3 v k cs ∧ namedK.L wr Fk (s.files.take k) cs ∧ (∀ b, Fk b → w.heap.size ≤ b ∧ b < wr.heap.size ∧ v.ownBlock ≠ some b) ∧
    Below w.heap.size w wr ∧ wr.heap[kb]? = W1.heap[kb]? ∧ v.ownBlock ≠ some kb

theorem FilesInv.step {w W1 wr W2 w2 : World} {s : St} {kb k g2 g3 cap3 : Nat} {v : Value} {n : Int} {f : File} {t : TypeId} {cs : List Value} {Fk : Nat → Prop} (h1 : wr.ownsRow w.heap.size 72 3 v k cs) (h2 : namedK.L wr Fk (s.files.take k) cs) (h3 : ∀ b, Fk b → w.heap.size ≤ b ∧ b < wr.heap.size ∧ v.ownBlock ≠ some b)
    (h4 : Below w.heap.size w wr) (h5 : wr.heap[kb]? = W1.heap[kb]?) (h6 : v.ownBlock ≠ some kb) (hx : s.files[k]? = some (n, f)) (hgood : f.good = true) (hkl : kb < W1.heap.size)
    (hR : RecRow W2 g2 f.recs) (hg2 : wr.heap.size ≤ g2) (hb2 : Below wr.heap.size wr W2)
    (hC1 : w2.ownsRow w.heap.size 72 3 (.slice (some ⟨g3, 0, none⟩) (k + 1) cap3) (k + 1) (cs ++ [.int .i64 n, .int .i64 f.perm, .slice (some ⟨g2, 0, none⟩) f.recs.length f.recs.length]))
    (hC2 : (W2.alloc (.cells #[.int .i64 n, .int .i64 f.perm, .slice (some ⟨g2, 0, none⟩) f.recs.length f.recs.length] t)).grownBy w2 v.ownBlock) (hC3 : v.ownBlock = some g3 ∨ g3 = W2.heap.size + 1) (hC4 : g3 < w2.heap.size) :
    FilesInv w W1 s kb (k + 1) (.slice (some ⟨g3, 0, none⟩) (k + 1) cap3) w2 := by
  have hs2 := hb2.size
  have hs3 : W2.heap.size + 1 ≤ w2.heap.size := by have := hC2.size; simpa using this
  have hgl := hR.block
  have hvlt : ∀ b, v.ownBlock = some b → w.heap.size ≤ b ∧ b < wr.heap.size := fun b hb => h1.lt b hb
  have hkw : kb < wr.heap.size := by
    rw [Array.getElem?_eq_getElem hkl] at h5
    exact (Array.getElem?_eq_some_iff.1 h5).1
  have same : ∀ b, b < W2.heap.size → v.ownBlock ≠ some b → w2.heap[b]? = W2.heap[b]? := fun b hb hv =>
    (hC2.block b (by simp; omega) (fun e => hv e.symm)).trans (Below.heap_alloc _ _ _ hb)
  have hg2v : v.ownBlock ≠ some g2 := fun e => by have := (hvlt g2 e).2; omega
  have hF : ∀ b, Fk b → w2.heap[b]? = wr.heap[b]? := fun b hb => by
    obtain ⟨i1, i2, i3⟩ := h3 b hb
    exact (same b (by omega) i3).trans (hb2.block b i2)
  refine ⟨_, fun b => Fk b ∨ b = g2, hC1, ?_, ?_, ?_, ?_, ?_⟩
  · rw [show s.files.take (k + 1) = s.files.take k ++ [(n, f)] by rw [List.take_add_one, hx]; rfl]
    refine Kd.L_snoc (Kd.L_mono (Kd.L_keep h2 hF) (fun b hb => .inl hb)) ⟨_, rfl, ?_⟩
    have hl := (good_head hgood).2.1
    exact (hR.keep (same g2 hgl hg2v)).sl (.inr rfl) (Nat.le_refl _) (by unfold maxLen; omega) (by unfold big; omega)
  · intro b hb
    rcases hb with hb | rfl
    · obtain ⟨i1, i2, i3⟩ := h3 b hb
      refine ⟨i1, by omega, ?_⟩
      intro e
      simp only [Value.ownBlock, Option.some.injEq] at e
      subst e
      rcases hC3 with e | e
      · exact i3 e
      · omega
    · refine ⟨by have := h4.size; omega, by omega, ?_⟩
      intro e
      simp only [Value.ownBlock, Option.some.injEq] at e
      subst e
      rcases hC3 with e | e
      · exact hg2v e
      · omega
  · have b1 : Below w.heap.size w (W2.alloc (.cells #[.int .i64 n, .int .i64 f.perm, .slice (some ⟨g2, 0, none⟩) f.recs.length f.recs.length] t)) := (h4.trans (hb2.mono h4.size)).alloc (by have := h4.size; omega) _
    exact b1.grown hC2 b1.size (fun b e => (hvlt b e).1)
  · exact ((same kb (by omega) h6).trans (hb2.block kb hkw)).trans h5
  · intro e
    simp only [Value.ownBlock, Option.some.injEq] at e
    subst e
    rcases hC3 with e | e
    · exact h6 e
    · omega

/-- What is handed back, when all have come. -/
theorem FilesInv.done {w W1 wr : World} {s : St} {kb : Nat} {v : Value} (h : FilesInv w W1 s kb s.files.length v wr) (hl : s.files.length ≤ 64) (hp : 0 < s.files.length) :
    ∃ g cap, v = .slice (some ⟨g, 0, none⟩) s.files.length cap ∧ s.files.length ≤ cap ∧ cap ≤ maxLen ∧ Sl namedK wr (New w wr) (.slice (some ⟨g, 0, none⟩) s.files.length s.files.length) s.files ∧ Below w.heap.size w wr := by
  obtain ⟨cs, Fk, h1, h2, h3, h4, h5, h6⟩ := h
  rw [List.take_length] at h2
  have hL : namedK.L wr (New w wr) s.files cs := Kd.L_mono h2 (fun b hb => ⟨(h3 b hb).1, (h3 b hb).2.1⟩)
  obtain ⟨hl1, ⟨_, h0⟩ | ⟨g, cap, cur, rfl, i3, i4, i5, i6, i7, i8⟩⟩ := h1
  · omega
  · refine ⟨g, cap, rfl, i5, i6, ?_, h4⟩
    have hg : g < wr.heap.size := (Array.getElem?_eq_some_iff.1 i4).1
    exact ⟨_, _, cs, rfl, Nat.le_refl _, ⟨by show _ * 40 ≤ big; unfold big; omega, by unfold maxLen; omega⟩, hL, fun _ => ⟨g, 0, rfl, ⟨i3, hg⟩, hg, fun j u hu => by
      rw [Nat.zero_add, cell_of_row wr g j cur _ (0, 0) i4]
      rw [← i8, List.getElem?_take] at hu
      split at hu
      · simpa using hu
      · cases hu⟩⟩

set_option maxRecDepth 100000 in
set_option maxHeartbeats 4000000 in
theorem ifs_Files_some {w : World} {F : Nat → Prop} {p : Nat} {s : St} (h : StoreAt w F p s) (h0 : s.files ≠ []) :
    Calls Tryd.prog 12 #[.pointer (some ⟨p, 0, none⟩)] w fun e w' => ∃ v, e = .returned v ∧ Sl namedK w' (New w w') v s.files ∧ Below w.heap.size w w' := by
  have hat := h
  obtain ⟨m, G, h⟩ := h
  have hpl := h.lt p h.fp
  have hml := h.lt m h.fm
  have c0 := h.c0
  have him := h.im
  have hlen64 := rising_len h.ok.rising h.ok.num
  have hpos : 0 < s.files.length := List.length_pos_iff.2 h0
  obtain ⟨i0, hi, hz0, hz1, hz2⟩ := info_parts info_named
  have HK := Lib.hid (keys_call m w)
  have HS := Lib.hid (sorted_call h)
  have H := Lib.hid h
  have HA := Lib.hid hat
  clear h hat h0
  go_enter Tryd.func12, Tryd.ntmps12
  go_wp2_with (first | (go_at_call 26; refine HK.out.mono ?_; rintro e w' ⟨rfl, rfl⟩) | (go_at_call 25; refine HS.out.mono ?_; rintro e W1 ⟨kv, rfl, hrow, hnil, hb⟩; rcases hrow with ⟨hr1, ⟨hr2, hr3⟩ | ⟨kb, kcap, cur, rfl, hr3, hr4, hr5, hr6, hr7, hr8⟩⟩; (exact absurd hr3 (by omega)); clear hnil; have hb' := Lib.hid hb; clear hb))
  have hkb : ∀ j x, s.files[j]? = some x → W1.cell? ⟨kb, j, none⟩ = some (.int .i64 x.1) := fun j x hx => by
    rw [cell_of_row W1 kb j cur _ _ hr4]
    have : (cur.toList.take (s.files.length * 1))[j]? = some (.int .i64 x.1) := by rw [hr8]; simp [hx, encZ]
    rw [List.getElem?_take] at this
    split at this
    · simpa using this
    · cases this
  have HKB := Lib.hid hkb
  have hkl : kb < W1.heap.size := (Array.getElem?_eq_some_iff.1 hr4).1
  have hB1 : Below w.heap.size w W1 := ((Below.refl _ w).alloc (Nat.le_refl _) _).trans (hb'.out.mono (by omega))
  have HB1 := Lib.hid hB1
  have hr5' := Lib.hid hr5
  have hr6' := Lib.hid hr6
  have hr3' := Lib.hid hr3
  clear hkb hr1 hr4 hr7 hr8 hB1 hr5 hr6 hr3
  go_loopw [3, 15] (fun v i wr => ∃ k : Nat, k ≤ s.files.length ∧ i = .int .i64 k ∧ FilesInv w W1 s kb k v wr)
    (fun _ i _ => s.files.length - (intOf i).toNat)
  case atStart => exact ⟨0, Nat.zero_le _, rfl, [], fun _ => False, World.ownsRow_nil _ _ _ _, rfl, fun b hb => hb.elim, HB1.out, rfl, by simp [Value.ownBlock]⟩
  case round =>
    obtain ⟨k, hk, rfl, cs, Fk, hown, hL, hFk, hB, hkeep, hvk⟩ := hrel
    by_cases hlt : k < s.files.length
    · obtain ⟨⟨n, f⟩, hx⟩ : ∃ x, s.files[k]? = some x := ⟨_, List.getElem?_eq_getElem hlt⟩
      have hget : s.get n = some f := lookF_of_mem H.out.ok.rising (List.mem_of_getElem? hx)
      have hkc : wr.cell? ⟨kb, k, none⟩ = some (.int .i64 n) := (World.cell?_of_block (w := W1) (a := ⟨kb, k, none⟩) hkeep).trans (HKB.out k _ hx)
      have hlk : mapLook (objAt w m) n = some (.agg #[.int .i64 f.perm, .slice (some ⟨G n, 0, none⟩) f.recs.length f.recs.length]) := by rw [H.out.lk n, hget]; rfl
      have c0' : wr.cell? ⟨p, 0, none⟩ = some (.map (some m)) := (hB.cell (p := ⟨p, 0, none⟩) hpl).trans c0
      have him' : IntMap (objAt wr m) := by rw [show objAt wr m = objAt w m from hB.block m hml]; exact him
      have hlk' : mapLook (objAt wr m) n = some (.agg #[.int .i64 f.perm, .slice (some ⟨G n, 0, none⟩) f.recs.length f.recs.length]) := by rw [show objAt wr m = objAt w m from hB.block m hml]; exact hlk
      have HO := Lib.hid (ifs_own f.perm _ f.recs wr ((H.out.sl hget).up hB))
      have hgood := Lib.hid (H.out.ok.get hget).2.1
      have A1 := Lib.hid hown
      have A2 := Lib.hid hL
      have A3 := Lib.hid hFk
      have A4 := Lib.hid hB
      have A5 := Lib.hid hkeep
      have A6 := Lib.hid hvk
      have A7 := Lib.hid hx
      have A8 := Lib.hid hget
      clear hown hL hFk hB hkeep hvk hx hget c0 him hlk
      have hgl := (good_head hgood.out).2.1
      go_wp2_with (first
        | (go_at_call 24; go_loud (refine HO.out.mono ?_; rintro e W2 ⟨v', rfl, hown2, hb2⟩; rcases hown2 with ⟨hz, _⟩ | ⟨g2, rfl, hg2, hR, hp2⟩; (exact absurd hgl.1 (by rw [hz]; simp)); have B1 := Lib.hid hR; have B2 := Lib.hid hb2; have B3 := Lib.hid hg2; clear hR hb2 hg2))
        | (at_builtin; go_loud (refine wpList_append_lies _ rfl _ _ 42 rfl w.heap.size 72 i0 (.agg #[.int .i64 0, .int .i64 0, .slice none 0 0]) 3 40 Tryd.underlying42 hi hz0 hz1 hz2 rfl (by decide) _ k cs rfl ((ownsRow_up A1.out B2.out).alloc _) ⟨W2.heap.size, 0, none⟩ 1 1 [.int .i64 n, .int .i64 f.perm, .slice (some ⟨g2, 0, none⟩) f.recs.length f.recs.length] rfl rfl (cells_new _ _ _) (by intro u hu; simp at hu; rcases hu with rfl | rfl | rfl <;> rfl) (by decide) (by unfold maxLen; omega) (by omega) (by have h1 := A4.out.size; have h2 := B2.out.size; simp; omega) _ rfl ?_; intro g3 cap3 w2 hown3 hgrow hlies hlt3; have C1 := Lib.hid hown3; have C2 := Lib.hid hgrow; have C3 := Lib.hid hlies; have C4 := Lib.hid hlt3; clear hown3 hgrow hlies hlt3)))
      go_roundw
      case rel =>
        exact ⟨k + 1, by omega, by simp, FilesInv.step A1.out A2.out A3.out A4.out A5.out A6.out A7.out hgood.out hkl B1.out B3.out B2.out C1.out C2.out (C3.out.imp id (fun e => by rw [e]; simp)) C4.out⟩
      case measure => simp [intOf]; omega
    · obtain rfl : k = s.files.length := by omega
      obtain ⟨g, cap, rfl, hc1, hc2, hsl, hbel⟩ := FilesInv.done ⟨cs, Fk, hown, hL, hFk, hB, hkeep, hvk⟩ hlen64 hpos
      have D1 := Lib.hid hsl
      have D2 := Lib.hid hbel
      have D3 := Lib.hid hc1
      have D4 : cap ≤ 9223372036854775807 := by unfold maxLen at hc2; omega
      clear hsl hbel hc1 hc2 hown hL hFk hB hkeep hvk
      go_wp2_with (go_at_call 27; refine (named_Clip _ _ _ D3.out D4 _).mono ?_; rintro e w' ⟨rfl, rfl⟩)
      go_returns
      exact ⟨_, rfl, D1.out, D2.out⟩

/-- A list of a store's files, with memory of its own. -/
theorem ifs_Files {w : World} {F : Nat → Prop} {p : Nat} {s : St} (h : StoreAt w F p s) :
    Calls Tryd.prog 12 #[.pointer (some ⟨p, 0, none⟩)] w fun e w' => ∃ v, e = .returned v ∧ Sl namedK w' (New w w') v s.files ∧ Below w.heap.size w w' := by
  by_cases h0 : s.files = []
  · refine (ifs_Files_empty h h0).mono ?_
    rintro e w' ⟨rfl, hb⟩
    exact ⟨_, rfl, by rw [h0]; exact Sl.nil, hb⟩
  · exact ifs_Files_some h h0
end Go.Proofs.YtmoebgkfmkdkpaaDoor
