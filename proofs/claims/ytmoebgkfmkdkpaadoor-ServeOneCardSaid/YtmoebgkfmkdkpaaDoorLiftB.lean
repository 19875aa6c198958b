/- From a row's premises to a walk's: slices of structs of slices. -/
import Derived.Test.YtmoebgkfmkdkpaaDoorLift
import Derived.Test.YtmoebgkfmkdkpaaDoorFiles
import Derived.SizedLaws
namespace Go.Proofs.YtmoebgkfmkdkpaaDoor
open Go.ChangeShapes Go.WideShapes Go.RowKit Go.Proofs
set_option linter.unusedSimpArgs false
set_option linter.unusedVariables false

section
variable {H : Type} {enc : TypeId × Value → H} {w : World}
/-- Cells that read as something of a type, of which no part is longer than the reach. -/
def RdW (enc : TypeId × Value → H) (w : World) (t : TypeId) (cs : List Value) : Prop :=
  ∃ fuel x, DataW.trod enc Tryd.prog w 0 (fun _ => true) true fuel t cs = some x ∧ ∀ n ∈ x.1.weights Tryd.prog t, n ≤ reachBytes
theorem RdW.rd {t : TypeId} {cs : List Value} (h : RdW enc w t cs) : Rd enc w t cs := by
  obtain ⟨fuel, x, h, _⟩ := h
  exact ⟨fuel, x, h⟩
/-- The blocks that are there. -/
abbrev Here (w : World) : Nat → Prop := fun b => b < w.heap.size

theorem rdw_struct {t : TypeId} {fs : Array Field} {cs : List Value} (hu : Tryd.prog.underlying t = some (.struct fs)) (h : RdW enc w t cs) : cs.length = Tryd.prog.cellsOf t ∧ ∀ (i : Nat) (f : Field), fs[i]? = some f → RdW enc w f.type ((cs.drop f.offset).take (Tryd.prog.cellsOf f.type)) := by
  obtain ⟨fuel, x, h, hw⟩ := h
  obtain ⟨xs, n, _, e, h3, h4, h5⟩ := DataW.trod_struct hu h
  refine ⟨h3, fun i f hf => ?_⟩
  have hi : i < xs.length := by rw [h4]; exact (Array.getElem?_eq_some_iff.1 hf).1
  refine ⟨n, _, (h5 i f hf).trans (List.getElem?_eq_getElem hi), fun m hm => hw m ?_⟩
  rw [e]
  simp only [DataW.weights, hu]
  refine DataW.weights_mem_each (j := i) (t := f.type) (d := xs[i].1) ?_ ?_ m hm
  · rw [List.getElem?_map, Array.getElem?_toList, hf]; rfl
  · rw [List.getElem?_map, List.getElem?_eq_getElem hi]; rfl
theorem weightsAll_mem {e : TypeId} : ∀ {ds : List (DataW H)} {j : Nat} {d : DataW H}, ds[j]? = some d → ∀ n ∈ d.weights Tryd.prog e, n ∈ DataW.weightsAll Tryd.prog e ds
  | d0 :: ds, 0, d, h, n, hn => by simp at h; subst h; simp only [DataW.weightsAll, List.mem_append]; exact .inl hn
  | d0 :: ds, j + 1, d, h, n, hn => by
    simp only [List.getElem?_cons_succ] at h
    simp only [DataW.weightsAll, List.mem_append]
    exact .inr (weightsAll_mem h n hn)
theorem addr_of_cell {a : Addr} {u : Value} (h : w.cell? a = some u) : a = ⟨a.block, a.off, none⟩ ∧ a.block < w.heap.size := by
  obtain ⟨b, o, s⟩ := a
  refine ⟨?_, World.block_lt_of_cell? _ _ h⟩
  unfold World.cell? at h
  split at h
  · split at h
    · cases h
    · rename_i hs
      cases s with
      | none => rfl
      | some s => simp at hs
  · cases h
theorem rdw_slice {α : Type} {k : Kd α} {P : α → Prop} {t e : TypeId} {c : Value} (hu : Tryd.prog.underlying t = some (.slice e)) (hsz : Tryd.prog.cellsOf e = k.sz) (hpos : 0 < k.sz) (hb : Tryd.prog.bytesOf e = k.bytes)
    (hk : ∀ cs, RdW enc w e cs → ∃ a, k.R w (Here w) a cs ∧ P a) (h : RdW enc w t [c]) : ∃ xs, Sl k w (Here w) c xs ∧ ∀ x ∈ xs, P x := by
  obtain ⟨fuel, x, h, hw⟩ := h
  rcases DataW.trod_slice hu h with ⟨h1, _⟩ | ⟨a, len, cap, elems, rest, n, _, h2, ex, _, h3, h4, h5, h6, h7, _⟩
  · simp at h1
    subst h1
    exact ⟨[], Sl.nil, by simp⟩
  · simp at h2
    subst h2
    have hwt : ∀ m ∈ (DataW.slice (elems.map (·.1)) (rest.map (·.1))).weights Tryd.prog t, m ≤ reachBytes := by rw [ex] at hw; exact hw
    have hrow : (elems.length + rest.length) * Tryd.prog.bytesOf e ≤ reachBytes := hwt _ (by simp [DataW.weights, hu])
    have hcell : 0 < cap → a = ⟨a.block, a.off, none⟩ ∧ a.block < w.heap.size := by
      intro hc
      have key : ∀ (i : Nat) (y : DataW H × List MemPlace), i = 0 → (w.cells? 0 (a.add (i * Tryd.prog.cellsOf e)) (Tryd.prog.cellsOf e)).bind (DataW.trod enc Tryd.prog w 0 (fun _ => true) true n e) = some y → a = ⟨a.block, a.off, none⟩ ∧ a.block < w.heap.size := by
        intro i y e0 hy
        subst e0
        obtain ⟨c, hc, _⟩ := Option.bind_eq_some_iff.1 hy
        obtain ⟨_, hl, hat⟩ := World.cells?_some hc
        have h0 := hat 0 (by omega)
        rw [List.getElem?_eq_getElem (by omega)] at h0
        simp only [Nat.zero_mul, Addr.add, if_true] at h0
        exact addr_of_cell h0
      by_cases hl : 0 < len
      · have := h6 0 hl
        rw [List.getElem?_eq_getElem (by omega)] at this
        exact key 0 _ rfl this
      · obtain ⟨hr, hrest⟩ := h7 rfl
        have := hrest 0 (by omega)
        rw [List.getElem?_eq_getElem (by omega)] at this
        exact key (len + 0) _ (by omega) this
    have build : ∀ m, m ≤ len → ∃ (xs : List α) (cs : List Value), xs.length = m ∧ k.L w (Here w) xs cs ∧ (∀ x ∈ xs, P x) ∧ ∀ j u, cs[j]? = some u → w.cell? (a.add j) = some u := by
      intro m
      induction m with
      | zero => intro _; exact ⟨[], [], rfl, rfl, by simp, by simp⟩
      | succ m ih =>
        intro hm
        obtain ⟨xs, cs, e1, e2, e3, e4⟩ := ih (by omega)
        have hi := h6 m (by omega)
        rw [List.getElem?_eq_getElem (by omega)] at hi
        obtain ⟨c, hc, hx⟩ := Option.bind_eq_some_iff.1 hi
        obtain ⟨_, hl, hat⟩ := World.cells?_some hc
        obtain ⟨y, hy, hPy⟩ := hk c ⟨n, _, hx, fun q hq => hwt q (by
          simp only [DataW.weights, hu, List.mem_cons, List.mem_append]
          exact .inr (.inl (weightsAll_mem (j := m) (by rw [List.getElem?_map, List.getElem?_eq_getElem (by omega)]; rfl) q hq)))⟩
        refine ⟨xs ++ [y], cs ++ c, by simp [e1], Kd.L_snoc e2 hy, ?_, fun j u hu' => ?_⟩
        · intro x hx'
          rcases List.mem_append.1 hx' with h | h
          · exact e3 x h
          · simp at h; subst h; exact hPy
        · have hcl := Kd.L_len e2
          rw [e1] at hcl
          obtain ⟨ha, _⟩ := hcell (by omega)
          rw [List.getElem?_append] at hu'
          split at hu'
          · exact e4 j u hu'
          · have := hat (j - cs.length) (by have := (List.getElem?_eq_some_iff.1 hu').1; omega)
            rw [hu'] at this
            have hge : m * k.sz ≤ j := by omega
            have e9 : a.off + m * Tryd.prog.cellsOf e + (j - cs.length) = a.off + j := by rw [hsz, hcl]; omega
            rw [ha] at this ⊢
            simp only [Addr.add_lit] at this ⊢
            rw [e9] at this
            exact this
    obtain ⟨xs, cs, e1, e2, e3, e4⟩ := build len (Nat.le_refl _)
    subst e1
    refine ⟨xs, ⟨some a, cap, cs, rfl, h3, ⟨?_, h4⟩, e2, fun hc => ?_⟩, e3⟩
    · have : reachBytes ≤ big := by unfold reachBytes big; omega
      rw [← hb]
      refine Nat.le_trans (Nat.le_trans (Nat.mul_le_mul_right _ ?_) hrow) this
      omega
    · obtain ⟨ha, hlt⟩ := hcell hc
      refine ⟨a.block, a.off, by rw [← ha], hlt, hlt, fun j u hu' => ?_⟩
      have := e4 j u hu'
      rw [ha] at this
      simpa only [Addr.add_lit] using this

theorem cells_recsB : Tryd.prog.cellsOf 26 = 1 := by kernel_rfl
theorem bytes_recB : Tryd.prog.bytesOf 25 = 4 := by kernel_rfl
theorem bytes_namedB : Tryd.prog.bytesOf 72 = 40 := by kernel_rfl
theorem cells_namedB : Tryd.prog.cellsOf 72 = 3 := by kernel_rfl
theorem cells_fileB : Tryd.prog.cellsOf 28 = 2 := by kernel_rfl
theorem rdw_recs {c : Value} (h : RdW enc w 26 [c]) : ∃ xs, Sl recK w (Here w) c xs ∧ ∀ r ∈ xs, r.wf :=
  rdw_slice (k := recK) (P := Rec.wf) Tryd.underlying26 cells_rec (by decide) bytes_recB (fun cs h => by
    obtain ⟨r, h1, h2⟩ := rd_rec h.rd
    exact ⟨r, h1, h2⟩) h
theorem rdw_file {c0 c1 : Value} (h : RdW enc w 28 [c0, c1]) : ∃ f : File, c0 = .int .i64 f.perm ∧ Sl recK w (Here w) c1 f.recs ∧ f.wf := by
  obtain ⟨hl, hf⟩ := rdw_struct Tryd.underlying28 h
  have f0 : RdW enc w 3 (([c0, c1].drop 0).take (Tryd.prog.cellsOf 3)) := hf 0 _ rfl
  have f1 : RdW enc w 26 (([c0, c1].drop 1).take (Tryd.prog.cellsOf 26)) := hf 1 _ rfl
  rw [cells_int] at f0
  rw [cells_recsB] at f1
  obtain ⟨p, e0⟩ := rd_i64 f0.rd
  obtain ⟨xs, h1, h2⟩ := rdw_recs f1
  simp at e0
  exact ⟨⟨p, xs⟩, e0, h1, h2⟩
theorem rdw_named {cs : List Value} (h : RdW enc w 72 cs) : ∃ x : Int × File, namedK.R w (Here w) x cs ∧ x.2.wf := by
  obtain ⟨hl, hf⟩ := rdw_struct Tryd.underlying72 h
  rw [cells_namedB] at hl
  obtain ⟨c0, r0, rfl, h0⟩ := listS hl
  obtain ⟨c1, r1, rfl, h1⟩ := listS h0
  obtain ⟨c2, rfl⟩ := list1 h1
  have f0 : RdW enc w 3 (([c0, c1, c2].drop 0).take (Tryd.prog.cellsOf 3)) := hf 0 _ rfl
  have f1 : RdW enc w 28 (([c0, c1, c2].drop 1).take (Tryd.prog.cellsOf 28)) := hf 1 _ rfl
  rw [cells_int] at f0
  rw [cells_fileB] at f1
  obtain ⟨n, e0⟩ := rd_i64 f0.rd
  obtain ⟨f, e1, h1, h2⟩ := rdw_file f1
  simp at e0
  exact ⟨(n, f), ⟨c2, by rw [e0, e1], h1⟩, h2⟩
theorem rdw_nameds {c : Value} (h : RdW enc w 42 [c]) : ∃ xs : List (Int × File), Sl namedK w (Here w) c xs ∧ ∀ x ∈ xs, x.2.wf :=
  rdw_slice (k := namedK) (P := fun x => x.2.wf) Tryd.underlying42 cells_namedB (by decide) bytes_namedB (fun cs h => rdw_named h) h

theorem okWide_array {P : Program} {r : Reach} {base n : Nat} {t e : TypeId} {v : Value} (ht : P.underlying t = some (.array n e)) (h : Value.okWide P w r base t v) : ∃ cs, v = .agg cs ∧ cs.size = P.cellsOf t := by
  simp only [Value.okWide, ht] at h
  obtain ⟨cs, h1, h2, _⟩ := h
  exact ⟨cs, h1, h2⟩
set_option maxRecDepth 100000 in
theorem wf_u8 {n : Int} (h : (Lit.int .u8 n).wf = true) : 0 ≤ n ∧ n < 256 := by
  simp [Lit.wf, IntKind.min, IntKind.max, IntKind.signed, IntKind.bits] at h
  omega
set_option maxRecDepth 100000 in
theorem wf_i64 {n : Int} (h : (Lit.int .i64 n).wf = true) : -9223372036854775808 ≤ n ∧ n ≤ 9223372036854775807 := by
  simp [Lit.wf, IntKind.min, IntKind.max, IntKind.signed, IntKind.bits] at h
  omega
/-! Arguments by value. -/
set_option maxRecDepth 100000 in
theorem arg_slice {t e : TypeId} {base : Nat} {v : Value} (ht : Tryd.prog.underlying t = some (.slice e)) (ho : Value.okWide Tryd.prog w .any base t v) (h : RdW enc w t v.cells.toList) : RdW enc w t [v] := by
  obtain ⟨a, l, c, rfl⟩ := okWide_slice ht ho
  simpa [Value.cells] using h
set_option maxRecDepth 100000 in
theorem arg_int {t : TypeId} {k : IntKind} {base : Nat} {v : Value} (ht : Tryd.prog.underlying t = some (.int k)) (ho : Value.okWide Tryd.prog w .any base t v) (h : RdW enc w t v.cells.toList) : ∃ n, v = .int k n ∧ (Lit.int k n).wf = true := by
  obtain ⟨n, rfl⟩ := okWide_int ht ho
  obtain ⟨m, h1, h2⟩ := rd_int ht h.rd
  simp [Value.cells] at h1
  subst h1
  exact ⟨_, rfl, h2⟩
set_option maxRecDepth 100000 in
theorem arg_addr {base : Nat} {v : Value} (ho : Value.okWide Tryd.prog w .any base 23 v) (h : RdW enc w 23 v.cells.toList) : ∃ a b c : Int, v = .agg #[.int .i64 a, .int .i64 b, .int .i64 c] := by
  obtain ⟨⟨cs⟩, rfl, hsz⟩ := okWide_struct Tryd.underlying23 ho
  rw [cells_addr] at hsz
  obtain ⟨c0, r0, rfl, h0⟩ := listS (n := 2) (cs := cs) (by simpa using hsz)
  obtain ⟨c1, r1, rfl, h1⟩ := listS h0
  obtain ⟨c2, rfl⟩ := list1 h1
  obtain ⟨a, b, c, e1, e2, e3⟩ := rd_addr (show Rd enc w 23 [c0, c1, c2] by simpa [Value.cells] using h.rd)
  exact ⟨a, b, c, by rw [e1, e2, e3]⟩
set_option maxRecDepth 100000 in
theorem arg_rec {base : Nat} {v : Value} (ho : Value.okWide Tryd.prog w .any base 25 v) (h : RdW enc w 25 v.cells.toList) : ∃ r : Rec, v = .agg #[.int .u8 r.a, .int .u8 r.b, .int .u8 r.c, .int .u8 r.d] ∧ r.wf := by
  obtain ⟨⟨cs⟩, rfl, hsz⟩ := okWide_array Tryd.underlying25 ho
  obtain ⟨r, e1, h2⟩ := rd_rec (show Rd enc w 25 cs by simpa [Value.cells] using h.rd)
  subst e1
  exact ⟨r, rfl, h2⟩

/-- An argument and the others. -/
theorem trodAll_cons {t : TypeId} {ts : List TypeId} {vs : List Value} {ds : List (DataW H)} {ps : List MemPlace} (h : DataW.TrodAll enc Tryd.prog w 0 (fun _ => true) true (t :: ts) vs ds ps) :
    ∃ v vs' d ds' p q, vs = v :: vs' ∧ ds = d :: ds' ∧ DataW.Trod enc Tryd.prog w 0 (fun _ => true) true t v d p ∧ DataW.TrodAll enc Tryd.prog w 0 (fun _ => true) true ts vs' ds' q := by
  match vs, ds, h with
  | v :: vs, d :: ds, ⟨p, q, h1, h2, e⟩ => exact ⟨v, vs, d, ds, p, q, rfl, rfl, h1, h2⟩
theorem trodAll_none {vs : List Value} {ds : List (DataW H)} {ps : List MemPlace} (h : DataW.TrodAll enc Tryd.prog w 0 (fun _ => true) true [] vs ds ps) : vs = [] ∧ ds = [] := by
  match vs, ds, h with
  | [], [], _ => exact ⟨rfl, rfl⟩
theorem weights_cons {t : TypeId} {ts : List TypeId} {d : DataW H} {ds : List (DataW H)} (h : ∀ n ∈ DataW.weightsEach Tryd.prog (t :: ts) (d :: ds), n ≤ reachBytes) : (∀ n ∈ d.weights Tryd.prog t, n ≤ reachBytes) ∧ ∀ n ∈ DataW.weightsEach Tryd.prog ts ds, n ≤ reachBytes :=
  ⟨fun n hn => h n (by simp only [DataW.weightsEach, List.mem_append]; exact .inl hn), fun n hn => h n (by simp only [DataW.weightsEach, List.mem_append]; exact .inr hn)⟩
theorem trod_rdw {t : TypeId} {v : Value} {d : DataW H} {p : List MemPlace} (h : DataW.Trod enc Tryd.prog w 0 (fun _ => true) true t v d p) (hw : ∀ n ∈ d.weights Tryd.prog t, n ≤ reachBytes) : RdW enc w t v.cells.toList := by
  obtain ⟨fuel, h⟩ := h
  exact ⟨fuel, _, h, hw⟩
end
end Go.Proofs.YtmoebgkfmkdkpaaDoor
