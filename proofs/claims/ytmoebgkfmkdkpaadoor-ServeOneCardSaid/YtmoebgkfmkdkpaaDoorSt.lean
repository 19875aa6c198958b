/- Stores of files: what their operations answer, in plain Lean: no program in sight. -/
import Derived.Test.YtmoebgkfmkdkpaaDoorSpec
namespace Go.Proofs.YtmoebgkfmkdkpaaDoor
open Go.RowKit

structure St where
  files : List (Int × File)
  denied : Int

def lookF : List (Int × File) → Int → Option File
  | [], _ => none
  | (k, g) :: r, n => if k = n then some g else lookF r n
def putF : List (Int × File) → Int → File → List (Int × File)
  | [], n, f => [(n, f)]
  | (k, g) :: r, n, f => if k = n then (n, f) :: r else if n < k then (n, f) :: (k, g) :: r else (k, g) :: putF r n f
def St.get (s : St) (n : Int) : Option File := lookF s.files n
def St.put (s : St) (n : Int) (f : File) : St := { s with files := putF s.files n f }

theorem lookF_putF (l : List (Int × File)) (n : Int) (f : File) (k : Int) : lookF (putF l n f) k = if k = n then some f else lookF l k := by
  by_cases hk : k = n
  · subst hk
    rw [if_pos rfl]
    induction l with
    | nil => simp [putF, lookF]
    | cons x r ih =>
      obtain ⟨j, g⟩ := x
      simp only [putF]
      split
      · simp [lookF]
      · split
        · simp [lookF]
        · rename_i h1 h2
          simp only [lookF, if_neg h1, ih]
  · rw [if_neg hk]
    have hk' : ¬ n = k := fun e => hk e.symm
    induction l with
    | nil => simp [putF, lookF, hk']
    | cons x r ih =>
      obtain ⟨j, g⟩ := x
      simp only [putF]
      split
      · rename_i h
        subst h
        simp only [lookF, if_neg hk']
      · split
        · simp only [lookF, if_neg hk']
        · simp only [lookF, ih]
theorem St.get_put (s : St) (n : Int) (f : File) (k : Int) : (s.put n f).get k = if k = n then some f else s.get k := lookF_putF _ _ _ _

/-- Rising by number. -/
def Rising (l : List (Int × File)) : Prop := l.Pairwise (fun x y => x.1 < y.1)
theorem mem_putF (l : List (Int × File)) (n : Int) (f : File) {x : Int × File} (h : x ∈ putF l n f) : x = (n, f) ∨ x ∈ l := by
  induction l with
  | nil => simpa [putF] using h
  | cons y r ih =>
    obtain ⟨j, g⟩ := y
    simp only [putF] at h
    split at h
    · simp at h ⊢; rcases h with h | h
      · exact .inl h
      · exact .inr (.inr h)
    · split at h
      · simp at h ⊢; exact h
      · simp at h ⊢
        rcases h with h | h
        · exact .inr (.inl h)
        · rcases ih h with h | h
          · exact .inl h
          · exact .inr (.inr h)
theorem Rising.put {l : List (Int × File)} (h : Rising l) (n : Int) (f : File) : Rising (putF l n f) := by
  induction l with
  | nil => exact List.pairwise_singleton _ _
  | cons y r ih =>
    obtain ⟨j, g⟩ := y
    obtain ⟨h1, h2⟩ := List.pairwise_cons.1 h
    simp only [putF]
    split
    · rename_i e; subst e
      exact List.pairwise_cons.2 ⟨h1, h2⟩
    · split
      · rename_i h3 h4
        refine List.pairwise_cons.2 ⟨?_, h⟩
        intro x hx
        simp only [List.mem_cons] at hx
        rcases hx with rfl | hx
        · exact h4
        · exact Int.lt_trans h4 (h1 x hx)
      · rename_i h3 h4
        refine List.pairwise_cons.2 ⟨?_, ih h2⟩
        intro x hx
        rcases mem_putF r n f hx with rfl | hx
        · dsimp only; omega
        · exact h1 x hx
theorem lookF_mem {l : List (Int × File)} {n : Int} {f : File} (h : lookF l n = some f) : (n, f) ∈ l := by
  induction l with
  | nil => cases h
  | cons y r ih =>
    obtain ⟨j, g⟩ := y
    simp only [lookF] at h
    split at h
    · rename_i e; subst e; cases h; simp
    · exact List.mem_cons_of_mem _ (ih h)
theorem lookF_of_mem {l : List (Int × File)} (hr : Rising l) {n : Int} {f : File} (h : (n, f) ∈ l) : lookF l n = some f := by
  induction l with
  | nil => cases h
  | cons y r ih =>
    obtain ⟨j, g⟩ := y
    obtain ⟨h1, h2⟩ := List.pairwise_cons.1 hr
    simp only [List.mem_cons] at h
    simp only [lookF]
    rcases h with h | h
    · cases h; simp
    · have := h1 _ h
      rw [if_neg (by simp at this; omega)]
      exact ih h2 h

/-- Records of bytes. -/
def File.wf (f : File) : Prop := ∀ r ∈ f.recs, r.wf
/-- What a store always is. -/
structure St.Ok (s : St) : Prop where
  rising : Rising s.files
  num : ∀ x ∈ s.files, 0 ≤ x.1 ∧ x.1 < 64
  good : ∀ x ∈ s.files, x.2.good = true
  wf : ∀ x ∈ s.files, x.2.wf

theorem St.Ok.put {s : St} (h : s.Ok) {n : Int} {f : File} (hn : 0 ≤ n ∧ n < 64) (hg : f.good = true) (hw : f.wf) : (s.put n f).Ok where
  rising := h.rising.put n f
  num := fun x hx => by rcases mem_putF _ _ _ hx with rfl | hx; exact hn; exact h.num x hx
  good := fun x hx => by rcases mem_putF _ _ _ hx with rfl | hx; exact hg; exact h.good x hx
  wf := fun x hx => by rcases mem_putF _ _ _ hx with rfl | hx; exact hw; exact h.wf x hx
theorem St.Ok.get {s : St} (h : s.Ok) {n : Int} {f : File} (hg : s.get n = some f) : (0 ≤ n ∧ n < 64) ∧ f.good = true ∧ f.wf :=
  have hm := lookF_mem hg
  ⟨h.num _ hm, h.good _ hm, h.wf _ hm⟩
theorem St.Ok.denied {s : St} (h : s.Ok) (d : Int) : ({ s with denied := d } : St).Ok := ⟨h.rising, h.num, h.good, h.wf⟩
def St.empty : St := ⟨[], 0⟩
theorem St.empty_ok : St.empty.Ok := ⟨List.Pairwise.nil, by simp [St.empty], by simp [St.empty], by simp [St.empty]⟩

def addrGood (op file rec : Int) : Bool := decide (0 ≤ op) && decide (op ≤ 2) && decide (0 ≤ file) && decide (file < 64) && decide (0 ≤ rec) && decide (rec < 256)

def St.add (s : St) (n : Int) (f : File) : St × Int :=
  if n < 0 ∨ 64 ≤ n then (s, 1) else if f.good = false then (s, 2) else if (s.get n).isSome then (s, 10) else (s.put n f, 0)
/-- An operation, ahead of the counting: what it comes to, and the error. -/
def St.op (s : St) (op file rec : Int) (v : Rec) : St × Rec × Int :=
  if addrGood op file rec = false then (s, .zero, 1) else match s.get file with
  | none => (s, .zero, 3)
  | some f => if may f op rec = 0 then (s.put file ⟨f.perm, doRecs f.recs op rec.toNat v⟩, (doRecs f.recs op rec.toNat v).getD rec.toNat .zero, 0) else (s, .zero, may f op rec)
def St.do (s : St) (op file rec : Int) (v : Rec) : St × Rec × Int :=
  let r := s.op op file rec v
  (if r.2.2 = 5 then { r.1 with denied := wrap64 (r.1.denied + 1) } else r.1, r.2)
def St.recAt (s : St) (n i : Int) : Option Rec := match s.get n with
  | none => none
  | some f => if 0 ≤ i then f.recs[i.toNat]? else none
def St.set (s : St) (n i : Int) (v : Rec) : St × Bool := match s.get n with
  | none => (s, false)
  | some f => if 0 < i ∧ i < f.recs.length then (s.put n ⟨f.perm, f.recs.set i.toNat v⟩, true) else (s, false)

theorem Rec.of_wf (n : Int) : (Rec.of n).wf := by
  unfold Rec.of Rec.wf
  dsimp only
  omega
theorem doRecs_wf {xs : List Rec} (h : ∀ r ∈ xs, r.wf) (op : Int) (i : Nat) {v : Rec} (hv : v.wf) : ∀ r ∈ doRecs xs op i v, r.wf := by
  unfold doRecs
  intro r hr
  split at hr
  · rcases List.mem_or_eq_of_mem_set hr with hr | rfl
    · exact h r hr
    · exact hv
  · split at hr
    · rcases List.mem_or_eq_of_mem_set hr with hr | rfl
      · exact h r hr
      · exact Rec.of_wf _
    · exact h r hr
theorem doRecs_len (xs : List Rec) (op : Int) (i : Nat) (v : Rec) : (doRecs xs op i v).length = xs.length := by
  unfold doRecs
  split
  · simp
  · split <;> simp
theorem good_head {f : File} (h : f.good = true) : (0 ≤ f.perm ∧ f.perm ≤ 7) ∧ (1 ≤ f.recs.length ∧ f.recs.length ≤ 256) ∧ f.recs.head? = some (hdr f.perm (f.recs.length - 1)) := by
  unfold File.good at h
  simp only [Bool.and_eq_true, decide_eq_true_eq, beq_iff_eq] at h
  obtain ⟨⟨⟨⟨h1, h2⟩, h3⟩, h4⟩, h5⟩ := h
  exact ⟨⟨h1, h2⟩, ⟨by omega, by omega⟩, h5⟩
/-- A file of which another record than the header was turned. -/
theorem good_set {f : File} (h : f.good = true) (i : Nat) (hi : 0 < i) (v : Rec) : (⟨f.perm, f.recs.set i v⟩ : File).good = true := by
  have hh : (f.recs.set i v).head? = f.recs.head? := by
    cases hr : f.recs with
    | nil => simp
    | cons x xs =>
      cases i with
      | zero => omega
      | succ i => simp
  unfold File.good at h ⊢
  simpa [hh] using h
theorem may_pos {f : File} {op rec : Int} (h : may f op rec = 0) (ho : op ≠ 0) : 0 < rec := by
  unfold may at h
  split at h
  · omega
  · split at h
    · omega
    · split at h
      · omega
      · split at h
        · rename_i h0; omega
        · split at h
          · omega
          · omega
theorem good_do {f : File} {op rec : Int} (h : f.good = true) (hm : may f op rec = 0) (v : Rec) : (⟨f.perm, doRecs f.recs op rec.toNat v⟩ : File).good = true := by
  unfold doRecs
  split
  · exact good_set h _ (by have := may_pos hm (by omega); omega) _
  · split
    · exact good_set h _ (by have := may_pos hm (by omega); omega) _
    · exact h
theorem St.Ok.do {s : St} (h : s.Ok) (op file rec : Int) {v : Rec} (hv : v.wf) : (s.do op file rec v).1.Ok := by
  have : (s.op op file rec v).1.Ok := by
    unfold St.op
    split
    · exact h
    · split
      · exact h
      · rename_i f hf
        obtain ⟨h1, h2, h3⟩ := h.get hf
        split
        · rename_i hm
          exact h.put h1 (good_do h2 hm v) (doRecs_wf h3 _ _ hv)
        · exact h
  unfold St.do
  dsimp only
  split
  · exact this.denied _
  · exact this
theorem St.Ok.add {s : St} (h : s.Ok) (n : Int) {f : File} (hw : f.wf) : (s.add n f).1.Ok := by
  unfold St.add
  split
  · exact h
  · split
    · exact h
    · split
      · exact h
      · exact h.put (by omega) (by simp_all) hw
theorem St.Ok.set {s : St} (h : s.Ok) (n i : Int) {v : Rec} (hv : v.wf) : (s.set n i v).1.Ok := by
  unfold St.set
  split
  · exact h
  · rename_i f hf
    obtain ⟨h1, h2, h3⟩ := h.get hf
    split
    · exact h.put h1 (good_set h2 _ (by omega) v) (fun r hr => by rcases List.mem_or_eq_of_mem_set hr with hr | rfl; exact h3 r hr; exact hv)
    · exact h
end Go.Proofs.YtmoebgkfmkdkpaaDoor
