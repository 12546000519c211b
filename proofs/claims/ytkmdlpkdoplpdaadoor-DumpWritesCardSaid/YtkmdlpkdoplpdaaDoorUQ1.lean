/- The dump's text, plainly: which tuples it tells, or which line is wrong. -/
import Derived.Test.YtkmdlpkdoplpdaaDoorUM1
import Derived.Test.YtkmdlpkdoplpdaaDoorRParse
namespace Go.Proofs.YtkmdlpkdoplpdaaDoor
open Go.RowKit
def headL : List UInt8 := [100, 117, 109, 112, 32, 49]
def lastGe (out : List Tup) (t : Tup) : Bool := match out.getLast? with
  | none => false
  | some u => decide (0 ≤ cmpT u t)
/-- what a line does: the tuples so far, its number, whether the end was there: (error, tuples, end) -/
def lineR (out : List Tup) (k : Nat) (done : Bool) (l : ByteArray) : Int × List Tup × Bool :=
  if done = true then (9, out, done)
  else if k = 1 then (if l.data.toList = headL then (0, out, done) else (9, out, done))
  else if l.data.toList = endL out.length then (0, out, true)
  else if parseOk l = false then (9, out, done)
  else if lastGe out (parseT l) = true then (11, out, done)
  else (0, out ++ [parseT l], done)
theorem cut1_lt {c : UInt8} : ∀ {l : List UInt8}, (cut1 c l).2.2 = true → (cut1 c l).2.1.length < l.length := by
  intro l h
  have e := congrArg List.length (cut1_true c l h)
  rw [List.length_append, List.length_cons] at e
  omega
/-- what a text tells: (tuples, line, error) -/
def dread (out : List Tup) (k : Nat) (done : Bool) (s : ByteArray) : List Tup × Nat × Int :=
  if h : cH 10 s = true then
    if (lineR out k done (cA 10 s)).1 = 0 then dread (lineR out k done (cA 10 s)).2.1 (k + 1) (lineR out k done (cA 10 s)).2.2 (cB 10 s)
    else ([], k, (lineR out k done (cA 10 s)).1)
  else if done = false then ([], k, 7)
  else if s.data.toList = [] then (out, 0, 0) else ([], k, 9)
termination_by s.size
decreasing_by
  have := cut1_lt h
  rw [Lib.size_eq, Lib.size_eq, cB_data]
  exact this
theorem dread_yes {out : List Tup} {k : Nat} {done : Bool} {s : ByteArray} (h : cH 10 s = true) (h0 : (lineR out k done (cA 10 s)).1 = 0) :
    dread out k done s = dread (lineR out k done (cA 10 s)).2.1 (k + 1) (lineR out k done (cA 10 s)).2.2 (cB 10 s) := by
  rw [dread, dif_pos h, if_pos h0]
theorem dread_bad {out : List Tup} {k : Nat} {done : Bool} {s : ByteArray} (h : cH 10 s = true) (h0 : (lineR out k done (cA 10 s)).1 ≠ 0) :
    dread out k done s = ([], k, (lineR out k done (cA 10 s)).1) := by
  rw [dread, dif_pos h, if_neg h0]
theorem dread_short {out : List Tup} {k : Nat} {s : ByteArray} (h : ¬ cH 10 s = true) : dread out k false s = ([], k, 7) := by
  rw [dread, dif_neg h, if_pos rfl]
theorem dread_rest {out : List Tup} {k : Nat} {s : ByteArray} (h : ¬ cH 10 s = true) (hs : s.data.toList ≠ []) : dread out k true s = ([], k, 9) := by
  rw [dread, dif_neg h, if_neg (by simp), if_neg hs]
theorem dread_end {out : List Tup} {k : Nat} {s : ByteArray} (hs : s.data.toList = []) : dread out k true s = (out, 0, 0) := by
  have h : ¬ cH 10 s = true := by unfold cH; rw [hs]; simp [cut1]
  rw [dread, dif_neg h, if_neg (by simp), if_pos hs]
theorem cut1_rest_le {c : UInt8} {s : ByteArray} (h : cH c s = true) : (cB c s).size < s.size := by
  have := cut1_lt (c := c) (l := s.data.toList) h
  rw [Lib.size_eq, Lib.size_eq, cB_data]
  exact this
theorem lineR_len (out : List Tup) (k : Nat) (done : Bool) (l : ByteArray) : (lineR out k done l).2.1.length ≤ out.length + 1 := by
  unfold lineR
  split
  · simp
  · split
    · split <;> simp
    · split
      · simp
      · split
        · simp
        · split <;> simp
end Go.Proofs.YtkmdlpkdoplpdaaDoor
