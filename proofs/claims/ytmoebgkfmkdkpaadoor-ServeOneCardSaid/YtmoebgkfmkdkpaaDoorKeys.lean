/- The numbers of a store's files, in their order: slices.Sorted(maps.Keys(files)). -/
import Derived.Test.YtmoebgkfmkdkpaaDoorIfsE
import Derived.Test.YtmoebgkfmkdkpaaDoorLay
namespace Go.Proofs.YtmoebgkfmkdkpaaDoor
open Go.RowKit Go.Maps Go.Sort Go.Shelf Go.Proofs
set_option linter.unusedSimpArgs false
set_option linter.unusedVariables false

theorem laySorts (m : Nat) : AnyZI.SortsIn Tryd.prog laySorted_ren Fence.wide m :=
  ⟨fun blk off cap ss W hH hblk hsz => callsIn_wide.2 (AnyM.slices_Sort_int laySort blk off cap ss W hH hblk hsz),
   fun p cap W => callsIn_wide.2 (AnyM.slices_Sort_int_none laySort p cap W)⟩

/-- Files whose numbers rise: their numbers are what sorting gives. -/
theorem sorted_rising {l : List (Int × File)} (hr : Rising l) {ss : List Int} (hp : ss.Perm (l.map (·.1))) : ss.mergeSort (fun x y => decide (x ≤ y)) = l.map (·.1) := by
  rw [show ss.mergeSort (fun x y => decide (x ≤ y)) = (l.map (·.1)).mergeSort leI from mergeSort_of_perm_i hp]
  refine List.mergeSort_of_pairwise ?_
  exact List.pairwise_map.2 (List.Pairwise.imp (fun h => by simp only [leI, decide_eq_true_eq]; omega) hr)

theorem lookF_isSome {l : List (Int × File)} (n : Int) : (lookF l n).isSome = true ↔ n ∈ l.map (·.1) := by
  induction l with
  | nil => simp [lookF]
  | cons x r ih =>
    obtain ⟨k, g⟩ := x
    simp only [lookF, List.map_cons, List.mem_cons]
    split
    · rename_i e; simp [e]
    · rename_i e
      rw [ih]
      constructor
      · exact .inr
      · rintro (h | h)
        · exact absurd h.symm e
        · exact h
theorem rising_nodup {l : List (Int × File)} (hr : Rising l) : (l.map (·.1)).Nodup :=
  List.pairwise_map.2 (List.Pairwise.imp (fun h e => by omega) hr)
theorem rising_len {l : List (Int × File)} (hr : Rising l) (hn : ∀ x ∈ l, 0 ≤ x.1 ∧ x.1 < 64) : l.length ≤ 64 := by
  have h : ∀ (l : List (Int × File)) (b : Nat), Rising l → (∀ x ∈ l, 0 ≤ x.1 ∧ x.1 < (b : Int)) → l.length ≤ b := by
    intro l b
    induction b generalizing l with
    | zero =>
      intro _ hx
      cases l with
      | nil => simp
      | cons x r => have := hx x (by simp); omega
    | succ b ih =>
      intro hr hx
      rcases List.eq_nil_or_concat l with rfl | ⟨L, x, rfl⟩
      · simp
      · rw [List.concat_eq_append] at hr hx ⊢
        have h1 := List.pairwise_append.1 hr
        have h2 : L.length ≤ b := ih L h1.1 (fun y hy => by
          have := h1.2.2 y hy x (by simp)
          have := hx y (by simp [hy])
          have := hx x (by simp)
          omega)
        simp; omega
  exact h l 64 hr hn

theorem keys_perm_files {w : World} {F : Nat → Prop} {p m : Nat} {G : Int → Nat} {s : St} (h : StoreIn w F p m G s) : (mapKeys (objAt w m)).Perm (s.files.map (·.1)) := by
  refine (List.perm_ext_iff_of_nodup (nodup_mapKeys h.im h.ka) (rising_nodup h.ok.rising)).2 fun n => ?_
  rw [mem_mapKeys h.im, h.lk n, ← lookF_isSome]
  unfold St.get
  cases lookF s.files n <;> simp

/-- Nothing of an entry's value is read. -/
def readNone : Value → Option (DataW Unit × List MemPlace) := fun _ => some (.nil, [])
theorem store_ownsMap {w : World} {F : Nat → Prop} {p m : Nat} {G : Int → Nat} {s : St} (h : StoreIn w F p m G s) : ∃ D : DataW Unit, w.ownsMap Tryd.prog 3 readNone m 64 D ∧ (intKeys D).Perm (s.files.map (·.1)) ∧ Maps.size D ≤ 64 := by
  obtain ⟨es, clock, ho, hk⟩ := h.im
  have hst := h.ka es clock ho
  have hperm := keys_perm_files h
  have hlen : es.size ≤ 64 := by
    have h1 := hperm.length_eq
    have h2 := rising_len h.ok.rising h.ok.num
    have h3 : (mapKeys (objAt w m)).length = es.size := by
      rw [ho]
      simp only [mapKeys]
      rw [← Array.length_toList]
      generalize es.toList = l at hk
      induction l with
      | nil => rfl
      | cons e l ih =>
        obtain ⟨n, hn⟩ := hk e (by simp)
        simp only [List.filterMap_cons, hn, List.length_cons]
        rw [ih (fun e he => hk e (by simp [he]))]
    simp at h1; omega
  have hwf : ∀ e ∈ es.toList, ∃ n, e.key = .int .i64 n ∧ WideElems.rd Tryd.prog 3 readNone e = some (.int .i64 n, .nil) := by
    intro e he
    obtain ⟨n, hn⟩ := hk e he
    have hmem : n ∈ mapKeys (objAt w m) := by
      rw [ho]
      exact List.mem_filterMap.2 ⟨e, he, by rw [hn]⟩
    have hmem' := hperm.mem_iff.1 hmem
    obtain ⟨x, hx, rfl⟩ := List.mem_map.1 hmem'
    have hb := h.ok.num x hx
    have hw : (Lit.int .i64 x.1).wf = true := by simp [Lit.wf, IntKind.min, IntKind.max, IntKind.signed, IntKind.bits]; omega
    exact ⟨x.1, hn, by unfold WideElems.rd; rw [hn, Maps.keyOf_int_mk Tryd.underlying3 hw]; rfl⟩
  refine ⟨_, ⟨es, clock, ho, ⟨by unfold maxLen; omega, hst, fun e he => by obtain ⟨n, _, h2⟩ := hwf e he; exact ⟨_, h2⟩⟩, hlen, rfl⟩, ?_, ?_⟩
  · refine List.Perm.trans ?_ hperm
    show (((es.toList.map (WideElems.rg Tryd.prog 3 readNone)).foldr DataW.insert []).map fun p => Go.intOf p.1).Perm _
    refine ((WideShapes.sorted_perm _).map _).trans ?_
    rw [ho]
    simp only [mapKeys]
    generalize es.toList = l at hwf
    induction l with
    | nil => exact List.Perm.refl _
    | cons e l ih =>
      obtain ⟨n, hn, h2⟩ := hwf e (by simp)
      simp only [List.map_cons, List.filterMap_cons, hn]
      have : Go.intOf (WideElems.rg Tryd.prog 3 readNone e).1 = n := by unfold WideElems.rg; rw [h2]; rfl
      rw [this]
      exact List.Perm.cons _ (ih (fun e he => hwf e (by simp [he])))
  · simp only [Maps.size]
    rw [length_sorted]
    simpa using hlen

theorem keys_call (m : Nat) (W : World) : Calls Tryd.prog 26 #[.map (some m)] W fun e w' => e = .returned (.func (.func 45) #[] #[.pointer (some ⟨W.heap.size, 0, none⟩)]) ∧ w' = W.alloc (.cells #[.map (some m)] 58) :=
  (callsIn_wide (n := 5)).1 (AnyZI.keys_in layKeys Fence.wide 5 trivial rfl (some m) W)

theorem sorted_call {w : World} {F : Nat → Prop} {p m : Nat} {G : Int → Nat} {s : St} (h : StoreIn w F p m G s) :
    Calls Tryd.prog 25 #[.func (.func 45) #[] #[.pointer (some ⟨w.heap.size, 0, none⟩)]] (w.alloc (.cells #[.map (some m)] 58)) fun e w' => ∃ v, e = .returned v ∧
      w'.ownsRow (w.heap.size + 1) 3 1 v s.files.length ((s.files.map (·.1)).map encZ) ∧ (v = .slice none 0 0 ↔ s.files = []) ∧ Below (w.heap.size + 1) (w.alloc (.cells #[.map (some m)] 58)) w' := by
  obtain ⟨D, hown, hperm, hsize⟩ := store_ownsMap h
  have hbl := hown.lt
  refine (callsIn_wide (n := 5)).1 ?_
  have hseq : SeqGives Fence.wide 2 Tryd.prog 45 #[.pointer (some ⟨w.heap.size, 0, none⟩)] encZ (fun ss => ss.Perm (intKeys D)) (Maps.size D) (w.alloc (.cells #[.map (some m)] 58)) :=
    AnyZI.keys_gives (ρ := layKeys_ren) { layKeys with } Fence.wide _ trivial rfl (by omega) w.heap.size m 64 D _ (by simp) (by simp) (by
      obtain ⟨es, clock, hb, Ft, hs, hD⟩ := hown
      exact ⟨es, clock, (Below.heap_alloc _ _ m hbl).trans hb, Ft, hs, hD⟩)
  have cS := AnyZI.sorted_in laySorted Fence.wide 5 trivial trivial trivial trivial rfl (by omega) (laySorts _) (enters_of Tryd.func44 (by kernel_rfl) rfl) 45 #[.pointer (some ⟨w.heap.size, 0, none⟩)] trivial (enters_of Tryd.func45 (by kernel_rfl) rfl) _ _ (by unfold maxLen; omega) (by omega) _ hseq
  refine CallsIn.mono cS ?_
  rintro e w' ⟨v, ss, rfl, hS, hrow, hnil, hb⟩
  have hp := hS.trans hperm
  have hlen : ss.length = s.files.length := by have := hp.length_eq; simpa using this
  rw [sorted_rising h.ok.rising hp, hlen] at hrow
  rw [World.size_alloc] at hrow hb
  refine ⟨v, rfl, hrow, ?_, hb⟩
  rw [hnil]
  constructor
  · intro e; rw [e] at hlen; exact List.eq_nil_of_length_eq_zero hlen.symm
  · intro e; rw [e] at hlen; exact List.eq_nil_of_length_eq_zero hlen
end Go.Proofs.YtmoebgkfmkdkpaaDoor
