/- What serve's functions answer (layer 16), and what one byte that is turned comes to: plain Lean, no program in sight. -/
import Derived.Test.YtmoebgkfmkdkpaaDoorSt
namespace Go.Proofs.YtmoebgkfmkdkpaaDoor
set_option linter.unusedSimpArgs false

/-- The check byte of bytes. -/
def checkOf (xs : List Int) : Int := xs.foldl x8 90
/-- Five bytes. -/
structure B5 where
  v : Rec
  k : Int
deriving DecidableEq
def B5.zero : B5 := ⟨.zero, 0⟩
def B5.wf (b : B5) : Prop := b.v.wf ∧ 0 ≤ b.k ∧ b.k < 256
def chk3 (v : Rec) : Int := checkOf [v.a, v.b, v.c]
def chk4 (v : Rec) : Int := checkOf [v.a, v.b, v.c, v.d]
def dataB (v : Rec) : B5 := ⟨v, chk4 v⟩
def openB (b : B5) : Rec × Int := if chk4 b.v = b.k then (b.v, 0) else (.zero, 14)
def askB (name op file rec : Int) : Rec × Int :=
  if name < 1 ∨ 254 < name ∨ addrGood op file rec = false then (.zero, 1) else (⟨name, op * 64 + file, rec, checkOf [name, op * 64 + file, rec]⟩, 0)
def answerB (s : St) (name : Int) (ask : Rec) (data : B5) : St × Rec × Int :=
  if chk3 ask ≠ ask.d ∨ ask.a ≠ name then (s, .zero, 14)
  else if 192 ≤ ask.b then (s, .zero, 2)
  else if ask.b / 64 = 1 ∧ (openB data).2 ≠ 0 then (s, .zero, 14)
  else s.do (ask.b / 64) (ask.b % 64) ask.c (if ask.b / 64 = 1 then data.v else .zero)
def serveB (s : St) (name : Int) (ask : Rec) (data : B5) : St × B5 × Bool :=
  if (answerB s name ask data).2.2 = 0 then ((answerB s name ask data).1, dataB (answerB s name ask data).2.1, true) else ((answerB s name ask data).1, .zero, false)
def turnR (v : Rec) (t : Int → Int) (o : Int) : Rec := ⟨x8 v.a (t o), x8 v.b (t (o + 1)), x8 v.c (t (o + 2)), x8 v.d (t (o + 3))⟩
def turn5 (b : B5) (t : Int → Int) (o : Int) : B5 := ⟨turnR b.v t o, x8 b.k (t (o + 4))⟩
def tryB (s : St) (name to op file rec : Int) (v : Rec) (t : Int → Int) : St × Rec × Int :=
  if (askB to op file rec).2 ≠ 0 then (s, .zero, (askB to op file rec).2)
  else if (serveB s name (turnR (askB to op file rec).1 t 0) (turn5 (dataB v) t 4)).2.2 = false then ((serveB s name (turnR (askB to op file rec).1 t 0) (turn5 (dataB v) t 4)).1, .zero, 13)
  else ((serveB s name (turnR (askB to op file rec).1 t 0) (turn5 (dataB v) t 4)).1, openB (turn5 (serveB s name (turnR (askB to op file rec).1 t 0) (turn5 (dataB v) t 4)).2.1 t 9))

/-! ### bytes -/
def byte (x : Int) : Prop := 0 ≤ x ∧ x < 256
theorem x8_nat (a b : Nat) (ha : a < 256) (hb : b < 256) : x8 a b = ((a ^^^ b : Nat) : Int) := by
  have h1 : (BitVec.ofInt 8 (a : Int)).toNat = a := by rw [BitVec.ofInt_natCast, BitVec.toNat_ofNat]; exact Nat.mod_eq_of_lt (by omega)
  have h2 : (BitVec.ofInt 8 (b : Int)).toNat = b := by rw [BitVec.ofInt_natCast, BitVec.toNat_ofNat]; exact Nat.mod_eq_of_lt (by omega)
  have hx : a ^^^ b < 2 ^ 8 := Nat.xor_lt_two_pow (by omega) (by omega)
  show IntKind.u8.wrap ((BitVec.ofInt 8 (a : Int) ^^^ BitVec.ofInt 8 (b : Int)).toNat : Int) = _
  rw [BitVec.toNat_xor, h1, h2, IntKind.wrap_u8]
  omega
theorem byte_nat {x : Int} (h : byte x) : ∃ n : Nat, x = n ∧ n < 256 := ⟨x.toNat, by unfold byte at h; omega, by unfold byte at h; omega⟩
theorem x8_byte {a b : Int} (ha : byte a) (hb : byte b) : byte (x8 a b) := by
  obtain ⟨m, rfl, hm⟩ := byte_nat ha
  obtain ⟨n, rfl, hn⟩ := byte_nat hb
  rw [x8_nat m n hm hn]
  have hx : m ^^^ n < 2 ^ 8 := Nat.xor_lt_two_pow (by omega) (by omega)
  unfold byte; omega
theorem x8_zero {a : Int} (ha : byte a) : x8 a 0 = a := by
  obtain ⟨m, rfl, hm⟩ := byte_nat ha
  have := x8_nat m 0 hm (by omega)
  simpa using this
theorem x8_comm {a b : Int} (ha : byte a) (hb : byte b) : x8 a b = x8 b a := by
  obtain ⟨m, rfl, hm⟩ := byte_nat ha
  obtain ⟨n, rfl, hn⟩ := byte_nat hb
  rw [x8_nat m n hm hn, x8_nat n m hn hm, Nat.xor_comm]
theorem x8_assoc {a b c : Int} (ha : byte a) (hb : byte b) (hc : byte c) : x8 (x8 a b) c = x8 a (x8 b c) := by
  obtain ⟨m, rfl, hm⟩ := byte_nat ha
  obtain ⟨n, rfl, hn⟩ := byte_nat hb
  obtain ⟨k, rfl, hk⟩ := byte_nat hc
  have h1 : m ^^^ n < 2 ^ 8 := Nat.xor_lt_two_pow (by omega) (by omega)
  have h2 : n ^^^ k < 2 ^ 8 := Nat.xor_lt_two_pow (by omega) (by omega)
  rw [x8_nat m n hm hn, x8_nat n k hn hk, x8_nat _ _ h1 hk, x8_nat _ _ hm h2, Nat.xor_assoc]
/-- A byte that is turned by another one than 0 is another byte. -/
theorem x8_ne {a b : Int} (ha : byte a) (hb : byte b) (h : b ≠ 0) : x8 a b ≠ a := by
  obtain ⟨m, rfl, hm⟩ := byte_nat ha
  obtain ⟨n, rfl, hn⟩ := byte_nat hb
  rw [x8_nat m n hm hn]
  intro e
  have e : m ^^^ n = m := by omega
  have : n = 0 := by
    have h1 : m ^^^ (m ^^^ n) = m ^^^ m := by rw [e]
    rw [← Nat.xor_assoc, Nat.xor_self, Nat.zero_xor] at h1
    exact h1
  omega
theorem x8_inj {a b c : Int} (ha : byte a) (hb : byte b) (hc : byte c) (h : x8 a c = x8 b c) : a = b := by
  obtain ⟨m, rfl, hm⟩ := byte_nat ha
  obtain ⟨n, rfl, hn⟩ := byte_nat hb
  obtain ⟨k, rfl, hk⟩ := byte_nat hc
  rw [x8_nat m k hm hk, x8_nat n k hn hk] at h
  have h : m ^^^ k = n ^^^ k := by omega
  have h1 : (m ^^^ k) ^^^ k = (n ^^^ k) ^^^ k := by rw [h]
  rw [Nat.xor_assoc, Nat.xor_assoc, Nat.xor_self, Nat.xor_zero, Nat.xor_zero] at h1
  rw [h1]
theorem x8_inj' {a b c : Int} (ha : byte a) (hb : byte b) (hc : byte c) (h : x8 c a = x8 c b) : a = b :=
  x8_inj ha hb hc (by rw [x8_comm ha hc, x8_comm hb hc]; exact h)
theorem byte_90 : byte 90 := by unfold byte; omega
theorem byte_0 : byte 0 := by unfold byte; omega
theorem check_byte : ∀ (xs : List Int) (c : Int), byte c → (∀ x ∈ xs, byte x) → byte (xs.foldl x8 c)
  | [], _, hc, _ => hc
  | x :: xs, c, hc, h => check_byte xs _ (x8_byte hc (h x (by simp))) (fun y hy => h y (by simp [hy]))
theorem chk3_byte {v : Rec} (h : v.wf) : byte (chk3 v) := check_byte _ _ byte_90 (by
  intro x hx; simp at hx; obtain ⟨h1, h2, h3, h4⟩ := h; rcases hx with rfl | rfl | rfl <;> assumption)
theorem chk4_byte {v : Rec} (h : v.wf) : byte (chk4 v) := check_byte _ _ byte_90 (by
  intro x hx; simp at hx; obtain ⟨h1, h2, h3, h4⟩ := h; rcases hx with rfl | rfl | rfl | rfl <;> assumption)
/-- What turns nothing. -/
theorem turnR_zero {v : Rec} (h : v.wf) {t : Int → Int} {o : Int} (h0 : t o = 0) (h1 : t (o + 1) = 0) (h2 : t (o + 2) = 0) (h3 : t (o + 3) = 0) : turnR v t o = v := by
  obtain ⟨q1, q2, q3, q4⟩ := h
  unfold turnR
  rw [h0, h1, h2, h3, x8_zero q1, x8_zero q2, x8_zero q3, x8_zero q4]

theorem askB_wf {name op file rec : Int} : (askB name op file rec).1.wf := by
  unfold askB
  split
  · simp [Rec.wf, Rec.zero]
  · rename_i h
    simp only [not_or, Bool.not_eq_false] at h
    obtain ⟨h1, h2, h3⟩ := h
    simp [addrGood] at h3
    have b1 : byte name := by unfold byte; omega
    have b2 : byte (op * 64 + file) := by unfold byte; omega
    have b3 : byte rec := by unfold byte; omega
    exact ⟨b1, b2, b3, check_byte _ _ byte_90 (by intro x hx; simp at hx; rcases hx with rfl | rfl | rfl <;> assumption)⟩
theorem askB_ok {name op file rec : Int} (h : (askB name op file rec).2 = 0) : (1 ≤ name ∧ name ≤ 254) ∧ addrGood op file rec = true ∧ (askB name op file rec).1 = ⟨name, op * 64 + file, rec, checkOf [name, op * 64 + file, rec]⟩ := by
  unfold askB at h ⊢
  split at h
  · cases h
  · rename_i h1
    rw [if_neg h1]
    simp only [not_or, Bool.not_eq_false] at h1
    exact ⟨by omega, h1.2.2, rfl⟩
theorem askB_err {name op file rec : Int} (h : (askB name op file rec).2 ≠ 0) : (askB name op file rec).2 = 1 := by
  unfold askB at h ⊢
  split
  · rfl
  · rename_i h1; rw [if_neg h1] at h; exact absurd rfl h

/-- One byte is turned. -/
def one (k by_ : Int) (i : Int) : Int := if i = k then by_ else 0

theorem chk3_turn {v : Rec} (h : v.wf) {k y : Int} (hy : byte y) (h0 : y ≠ 0) (hk : 0 ≤ k ∧ k < 4) : chk3 (turnR v (one k y) 0) ≠ (turnR v (one k y) 0).d ∨ chk3 v ≠ v.d := by
  obtain ⟨q1, q2, q3, q4⟩ := h
  have z1 := x8_zero q1; have z2 := x8_zero q2; have z3 := x8_zero q3; have z4 := x8_zero q4
  have n1 := x8_ne q1 hy h0; have n2 := x8_ne q2 hy h0; have n3 := x8_ne q3 hy h0; have n4 := x8_ne q4 hy h0
  have b1 := x8_byte q1 hy; have b2 := x8_byte q2 hy; have b3 := x8_byte q3 hy; have b4 := x8_byte q4 hy
  have s1 : byte (x8 90 v.a) := x8_byte byte_90 q1
  have s2 : byte (x8 (x8 90 v.a) v.b) := x8_byte s1 q2
  rcases Classical.em (chk3 v = v.d) with e | e
  · left
    rw [show chk3 v = x8 (x8 (x8 90 v.a) v.b) v.c from rfl] at e
    rcases (show k = 0 ∨ k = 1 ∨ k = 2 ∨ k = 3 by omega) with rfl | rfl | rfl | rfl
    all_goals simp only [turnR, one, chk3, checkOf, List.foldl, Int.zero_add, Int.reduceAdd, Int.reduceEq, if_true, if_false, z1, z2, z3, z4]
    · intro e2
      have e3 := e2.trans e.symm
      exact n1 (x8_inj' b1 q1 byte_90 (x8_inj (x8_byte byte_90 b1) s1 q2 (x8_inj (x8_byte (x8_byte byte_90 b1) q2) s2 q3 e3)))
    · intro e2
      have e3 := e2.trans e.symm
      exact n2 (x8_inj' b2 q2 s1 (x8_inj (x8_byte s1 b2) s2 q3 e3))
    · intro e2
      have e3 := e2.trans e.symm
      exact n3 (x8_inj' b3 q3 s2 e3)
    · intro e2
      exact n4 (e2.symm.trans e)
  · exact .inr e
theorem chk4_turn {v : Rec} (h : v.wf) {k y o : Int} (hy : byte y) (h0 : y ≠ 0) (hk : o ≤ k ∧ k < o + 5) : (openB (turn5 (dataB v) (one k y) o)).2 ≠ 0 := by
  have hc := chk4_byte h
  obtain ⟨q1, q2, q3, q4⟩ := h
  have z1 := x8_zero q1; have z2 := x8_zero q2; have z3 := x8_zero q3; have z4 := x8_zero q4; have z5 := x8_zero hc
  have n1 := x8_ne q1 hy h0; have n2 := x8_ne q2 hy h0; have n3 := x8_ne q3 hy h0; have n4 := x8_ne q4 hy h0; have n5 := x8_ne hc hy h0
  have b1 := x8_byte q1 hy; have b2 := x8_byte q2 hy; have b3 := x8_byte q3 hy; have b4 := x8_byte q4 hy
  have s1 : byte (x8 90 v.a) := x8_byte byte_90 q1
  have s2 : byte (x8 (x8 90 v.a) v.b) := x8_byte s1 q2
  have s3 : byte (x8 (x8 (x8 90 v.a) v.b) v.c) := x8_byte s2 q3
  suffices H : chk4 (turn5 (dataB v) (one k y) o).v ≠ (turn5 (dataB v) (one k y) o).k by
    unfold openB
    rw [if_neg H]
    decide
  have ew : chk4 v = x8 (x8 (x8 (x8 90 v.a) v.b) v.c) v.d := rfl
  have f1 : ∀ o a b : Int, (o + a = o + b) = (a = b) := fun o a b => by simp
  have f2 : ∀ o a : Int, (o + a = o) = (a = 0) := fun o a => by simp; omega
  have f3 : ∀ o a : Int, (o = o + a) = (a = 0) := fun o a => by simp; omega
  rcases (show k = o ∨ k = o + 1 ∨ k = o + 2 ∨ k = o + 3 ∨ k = o + 4 by omega) with rfl | rfl | rfl | rfl | rfl
  all_goals simp only [turn5, turnR, one, dataB, f1, f2, f3, Int.reduceEq, if_true, if_false, z1, z2, z3, z4, z5]
  · intro e2
    have e3 : x8 (x8 (x8 (x8 90 (x8 v.a y)) v.b) v.c) v.d = x8 (x8 (x8 (x8 90 v.a) v.b) v.c) v.d := e2
    exact n1 (x8_inj' b1 q1 byte_90 (x8_inj (x8_byte byte_90 b1) s1 q2 (x8_inj (x8_byte (x8_byte byte_90 b1) q2) s2 q3 (x8_inj (x8_byte (x8_byte (x8_byte byte_90 b1) q2) q3) s3 q4 e3))))
  · intro e2
    have e3 : x8 (x8 (x8 (x8 90 v.a) (x8 v.b y)) v.c) v.d = x8 (x8 (x8 (x8 90 v.a) v.b) v.c) v.d := e2
    exact n2 (x8_inj' b2 q2 s1 (x8_inj (x8_byte s1 b2) s2 q3 (x8_inj (x8_byte (x8_byte s1 b2) q3) s3 q4 e3)))
  · intro e2
    have e3 : x8 (x8 (x8 (x8 90 v.a) v.b) (x8 v.c y)) v.d = x8 (x8 (x8 (x8 90 v.a) v.b) v.c) v.d := e2
    exact n3 (x8_inj' b3 q3 s2 (x8_inj (x8_byte s2 b3) s3 q4 e3))
  · intro e2
    have e3 : x8 (x8 (x8 (x8 90 v.a) v.b) v.c) (x8 v.d y) = x8 (x8 (x8 (x8 90 v.a) v.b) v.c) v.d := e2
    exact n4 (x8_inj' b4 q4 s3 e3)
  · intro e2
    exact n5 e2.symm
end Go.Proofs.YtmoebgkfmkdkpaaDoor
