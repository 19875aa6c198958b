/- file.next: a number in four bytes, one more. -/
import Derived.Test.YtmoebgkfmkdkpaaDoorFileC
import Derived.RangeFuncBox
import Derived.RangeFuncFrom
import Derived.RangeFuncNested
import Derived.RangeFuncBound
import Derived.RangeFuncCalls
import Derived.RangeFuncLeaves
import Derived.Shelf.Abstract
import Derived.OwnWalkIn
import Derived.TacticsInMore
import Derived.LoopNIn
import Derived.LoopIn
namespace Go.Proofs.YtmoebgkfmkdkpaaDoor
open Go.RowKit Go.Proofs Go.Shelf
set_option linter.unusedSimpArgs false
set_option linter.unusedVariables false
attribute [local go_sem] Oper.semAt_some

/-- What a round is handed: a place, and what lies there. -/
abbrev At4 := { x : Nat × Int // x.1 < 4 }
def at4 (x : At4) : Array Value := #[.int .i64 (x.1.1 : Int), .int .u8 x.1.2]
/-- What a round keeps of the memory that the iterator reads. -/
def Kept4 (Bs b : Nat) (W W' : World) : Prop :=
  W'.cell? ⟨Bs, 0, none⟩ = W.cell? ⟨Bs, 0, none⟩ ∧ ∀ j, j < 4 → (∃ c, W.cell? ⟨b, j, none⟩ = some (.int .u8 c)) → ∃ c, W'.cell? ⟨b, j, none⟩ = some (.int .u8 c)
theorem Kept4.trans {Bs b : Nat} {A B C : World} (h : Kept4 Bs b A B) (k : Kept4 Bs b B C) : Kept4 Bs b A C := ⟨k.1.trans h.1, fun j hj hc => k.2 j hj (h.2 j hj hc)⟩
theorem cell_putObj {W : World} {l : Nat} {o : Obj} (h : W.heap[l]? = some o) (ho : o.isCells = false) (o' : Obj) (ho' : o'.isCells = false) (b j : Nat) : (W.putObj l o').cell? ⟨b, j, none⟩ = W.cell? ⟨b, j, none⟩ := by
  by_cases e : b = l
  · subst e
    have hl := (Array.getElem?_eq_some_iff.1 h).1
    unfold World.cell?
    rw [World.putObj_heap_same hl, h]
    cases o <;> cases o' <;> simp_all [Obj.isCells]
  · exact World.cell?_of_block (w := W) (a := ⟨b, j, none⟩) (World.putObj_heap_other e)

set_option maxRecDepth 100000 in
set_option maxHeartbeats 4000000 in
theorem back_stops (n : Nat) (hn : 1 ≤ n) (Bs b c : Nat) (w : World) (hB : w.cell? ⟨Bs, 0, none⟩ = some (.slice (some ⟨b, 0, none⟩) 4 c)) (hBs : Bs < w.heap.size) (hb : b < w.heap.size) (hc : ∀ j, j < 4 → ∃ u, w.cell? ⟨b, j, none⟩ = some (.int .u8 u)) :
    SeqStopsK Fence.wide n Tryd.prog 78 #[.pointer (some ⟨Bs, 0, none⟩)] at4 (Kept4 Bs b) (fun xs => xs.map (·.1.1) = [3, 2, 1, 0]) (fun xs => xs.map (·.1.1) <+: [3, 2, 1, 0]) 4 w := fun l J Jx W hW _ _ hY h0 => by
  have hB1 := (hW.cell (p := ⟨Bs, 0, none⟩) hBs).trans hB
  have hc1 : ∀ j, j < 4 → ∃ u, W.cell? ⟨b, j, none⟩ = some (.int .u8 u) := fun j hj => by obtain ⟨u, hu⟩ := hc j hj; exact ⟨u, (hW.cell (p := ⟨b, j, none⟩) hb).trans hu⟩
  refine callsIn_of_wp Tryd.func78 rfl trivial ?_ rfl
  simp only [Tryd.ntmps78, List.size_toArray, List.length_cons, List.length_nil, Nat.reduceAdd, Nat.reduceSub, Array.replicate_succ, Array.replicate_zero, List.push_toArray, List.append_toArray, List.nil_append, List.cons_append]
  clear hW hB hc hBs hb
  gi_wp2
  gi_loopw [3] (fun i wr => ∃ (k : Nat) (pre : List At4), i = .int .i64 (3 - (k : Int)) ∧ k ≤ 4 ∧ pre.map (·.1.1) = [3, 2, 1, 0].take k ∧ J pre wr ∧ wr.cell? ⟨Bs, 0, none⟩ = some (.slice (some ⟨b, 0, none⟩) 4 c) ∧ ∀ j, j < 4 → ∃ u, wr.cell? ⟨b, j, none⟩ = some (.int .u8 u))
    (fun i _ => (intOf i + 1).toNat)
  case atStart => exact ⟨0, [], by simp, by omega, rfl, h0, hB1, hc1⟩
  case round =>
    obtain ⟨k, pre, rfl, hk, hp, hJ, hB2, hc2⟩ := hrel
    by_cases hlt : k < 4
    · obtain ⟨u, hu⟩ := hc2 (3 - k) (by omega)
      have hx4 : 3 - k < 4 := by omega
      have hpl : pre.length = k := by have := congrArg List.length hp; simpa [Nat.min_eq_left hk] using this
      obtain ⟨fn, tmps, assign, body, hy, hR⟩ := hY pre ⟨(3 - k, u), hx4⟩ wr hJ (hpl ▸ hlt)
      simp only [at4] at hy
      have e1 : (((3 - k : Nat) : Nat) : Int) = 3 - (k : Int) := by omega
      rw [e1] at hy
      have hidx : (3 - (k : Int)).toNat = 3 - k := by omega
      have hge : decide ((0 : Int) ≤ 3 - (k : Int)) = true := by simp; omega
      have hH := Lib.hid hp
      have hH2 := Lib.hid hpl
      clear hp hpl e1
      gi_wp2
      refine hR.mono ?_
      have htk : ([3, 2, 1, 0] : List Nat).take k ++ [3 - k] = [3, 2, 1, 0].take (k + 1) := by
        rcases (show k = 0 ∨ k = 1 ∨ k = 2 ∨ k = 3 by omega) with rfl | rfl | rfl | rfl <;> rfl
      have HT := Lib.hid htk
      clear htk
      rintro e W3 (⟨rfl, hJ3, hk3⟩ | ⟨rfl, hJx3⟩)
      · have hB3 := hk3.1.trans hB2
        have hc3 : ∀ j, j < 4 → ∃ u, W3.cell? ⟨b, j, none⟩ = some (.int .u8 u) := fun j hj => hk3.2 j hj (hc2 j hj)
        gi_wp2
        go_roundw
        case rel => exact ⟨k + 1, pre ++ [⟨(3 - k, u), hx4⟩], by simp; omega, by omega, by rw [List.map_append, hH.out]; exact HT.out, hJ3, hB3, hc3⟩
        case measure => simp [intOf]; omega
      · gi_wp2
        refine bodyPost_ret (results_none rfl _ _ _) rfl ?_
        refine ⟨⟨_, rfl⟩, .inr ⟨_, ?_, hJx3⟩⟩
        rw [List.map_append, hH.out]
        show ([3, 2, 1, 0] : List Nat).take k ++ [3 - k] <+: _
        rw [HT.out]; exact List.take_prefix _ _
    · obtain rfl : k = 4 := by omega
      gi_wp2
      go_end0
      exact ⟨⟨_, rfl⟩, .inl ⟨_, hp, hJ⟩⟩
end Go.Proofs.YtmoebgkfmkdkpaaDoor
