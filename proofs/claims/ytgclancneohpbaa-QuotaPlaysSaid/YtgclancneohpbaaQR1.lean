/- The document's quota in memory; walks: New, tick. -/
import Derived.Test.YtgclancneohpbaaProg
import Derived.Test.YtgclancneohpbaaKeep
import Derived.Test.YtgclancneohpbaaQRef
import Derived.BigQuiet
import Derived.BigRegion
import Derived.LoopN
namespace Go.Proofs.Ytgclancneohpbaa
open Go.RowKit
def rcells (cs : List (ByteArray × Nat)) : List Value := cs.flatMap fun c => [.string c.1, .int .u64 c.2]
theorem rcells_length (cs : List (ByteArray × Nat)) : (rcells cs).length = cs.length * 2 := by
  induction cs with
  | nil => rfl
  | cons c cs ih => simp [rcells] at ih ⊢; omega
theorem rcells_at : ∀ (cs : List (ByteArray × Nat)) (k : Nat) (c : ByteArray × Nat), cs[k]? = some c → (rcells cs)[k * 2]? = some (.string c.1) ∧ (rcells cs)[k * 2 + 1]? = some (.int .u64 c.2)
  | [], k, c, h => by simp at h
  | d :: cs, 0, c, h => by
    obtain rfl : d = c := by simpa using h
    exact ⟨rfl, rfl⟩
  | d :: cs, k + 1, c, h => by
    obtain ⟨h1, h2⟩ := rcells_at cs k c (by simpa using h)
    have e : rcells (d :: cs) = .string d.1 :: .int .u64 d.2 :: rcells cs := rfl
    rw [e, show (k + 1) * 2 = k * 2 + 1 + 1 by omega]
    exact ⟨by simpa using h1, by simpa using h2⟩
theorem rcells_set : ∀ (cs : List (ByteArray × Nat)) (k : Nat) (c : ByteArray × Nat) (h : Nat), cs[k]? = some c → (rcells cs).set (k * 2 + 1) (.int .u64 h) = rcells (cs.set k (c.1, h))
  | [], k, c, h, hc => by simp at hc
  | d :: cs, 0, c, h, hc => by
    obtain rfl : d = c := by simpa using hc
    rfl
  | d :: cs, k + 1, c, h, hc => by
    have ih := rcells_set cs k c h (by simpa using hc)
    have e : rcells (d :: cs) = .string d.1 :: .int .u64 d.2 :: rcells cs := rfl
    have e2 : rcells ((d :: cs).set (k + 1) (c.1, h)) = .string d.1 :: .int .u64 d.2 :: rcells (cs.set k (c.1, h)) := rfl
    rw [e, e2, ← ih, show (k + 1) * 2 + 1 = (k * 2 + 1) + 1 + 1 by omega]
    rfl
/-- the document's quota lies at block g, its clients in a row that v leads to, from B on -/
structure Rat (w : World) (B g : Nat) (v : Value) (r : RQ) : Prop where
  blk : Blk w g 38 #[.int .u64 r.rate, .int .u64 r.most, .int .u64 r.now, v]
  own : w.ownsRow B 40 2 v r.cs.length (rcells r.cs)
def rset (g : Nat) (v : Value) : Nat → Prop := fun k => k = g ∨ v.ownBlock = some k
theorem Rat.ne {w : World} {B g : Nat} {v : Value} {r : RQ} (h : Rat w B g v r) : v.ownBlock ≠ some g := own_blk_ne h.own h.blk (by decide)
theorem Rat.keeps {S : Nat → Prop} {w w' : World} {B g : Nat} {v : Value} {r : RQ} (h : Rat w B g v r) (hk : Keeps S w w') (hg : ¬ S g) (hv : ∀ b, v.ownBlock = some b → ¬ S b) : Rat w' B g v r :=
  ⟨h.blk.keeps hk hg, own_keeps h.own hk hv⟩
theorem rnew_at (w : World) (B : Nat) (rate most : Nat) (r m : Int) (hr : r = ((min rate 4294967296 : Nat) : Int)) (hm : m = ((min most 4294967296 : Nat) : Int)) :
    Rat (w.alloc (.cells #[.int .u64 r, .int .u64 m, .int .u64 0, .slice none 0 0] 38)) B w.heap.size (.slice none 0 0) ⟨min rate 4294967296, min most 4294967296, 0, []⟩ := by
  subst hr hm
  exact ⟨Blk.new _ _ _, World.ownsRow_nil _ _ _ _⟩
set_option maxHeartbeats 1000000 in
theorem rnew_calls (rate most B : Nat) (w : World) (h1 : rate < 18446744073709551616) (h2 : most < 18446744073709551616) :
    Calls Try.prog 15 #[.int .u64 rate, .int .u64 most] w fun e w' => e = .returned (.pointer (some ⟨w.heap.size, 0, none⟩)) ∧ Rat w' B w.heap.size (.slice none 0 0) ⟨min rate 4294967296, min most 4294967296, 0, []⟩ ∧ Below w.heap.size w w' ∧ w'.heap.size = w.heap.size + 1 := by
  go_enter Try.func15, Try.ntmps15
  go_wp2
  all_goals
    go_ret
    exact ⟨rfl, rnew_at w B rate most _ _ (by omega) (by omega), (Below.refl w.heap.size w).alloc (Nat.le_refl _) _, by simp⟩
/-- part of the way -/
def RQ.upto (r : RQ) (t k : Nat) : RQ := { r with now := t, cs := (r.cs.take k).map (r.grow (t - r.now)) ++ r.cs.drop k }
theorem upto_cs (r : RQ) (t k : Nat) : (r.upto t k).cs = (r.cs.take k).map (r.grow (t - r.now)) ++ r.cs.drop k := rfl
theorem upto_len (r : RQ) (t k : Nat) : (r.upto t k).cs.length = r.cs.length := by
  rw [upto_cs, List.length_append, List.length_map, List.length_take, List.length_drop]
  omega
theorem upto_at (r : RQ) (t : Nat) {k : Nat} {c : ByteArray × Nat} (h : r.cs[k]? = some c) : (r.upto t k).cs[k]? = some c := by
  have hl := (List.getElem?_eq_some_iff.1 h).1
  rw [upto_cs, List.getElem?_append_right (by rw [List.length_map, List.length_take]; omega), List.length_map, List.length_take, List.getElem?_drop]
  rw [show min k r.cs.length = k by omega, show k + (k - k) = k by omega]
  exact h
theorem upto_step (r : RQ) (t : Nat) {k : Nat} {c : ByteArray × Nat} (h : r.cs[k]? = some c) : (r.upto t k).cs.set k (c.1, min r.most (c.2 + r.more (t - r.now))) = (r.upto t (k + 1)).cs := by
  have hl := (List.getElem?_eq_some_iff.1 h).1
  rw [upto_cs, upto_cs, List.set_append_right _ _ (by rw [List.length_map, List.length_take]; omega), List.length_map, List.length_take, show k - min k r.cs.length = 0 by omega, List.drop_eq_getElem_cons hl, List.set_cons_zero, List.take_succ_eq_append_getElem hl, List.map_append]
  have e : r.cs[k] = c := by rw [List.getElem?_eq_getElem hl] at h; exact Option.some.inj h
  rw [e]
  simp [RQ.grow]
theorem upto_zero (r : RQ) (t : Nat) : r.upto t 0 = { r with now := t } := by unfold RQ.upto; simp
theorem upto_all (r : RQ) (t : Nat) (h : ¬ t ≤ r.now) : r.upto t r.cs.length = r.tick t := by
  unfold RQ.upto RQ.tick
  rw [if_neg h]
  simp
end Go.Proofs.Ytgclancneohpbaa
