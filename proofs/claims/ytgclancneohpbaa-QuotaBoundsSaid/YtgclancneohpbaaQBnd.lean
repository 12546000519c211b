/- Plain: what a client takes in any ticks. -/
import Derived.Test.YtgclancneohpbaaQt
namespace Go.Proofs.Ytgclancneohpbaa
/-- what is known of the only client, when k acts are over -/
def BInv (a : List UInt8) (q : Qt) (k taken first now : Nat) : Prop :=
  (k = 0 ∧ taken = 0 ∧ first = 0 ∧ now = 0 ∧ q.f a = none ∧ q.now = 0) ∨
  (0 < k ∧ q.now = now ∧ first ≤ now ∧ now ≤ 1000 * k ∧ taken ≤ 100000 * k ∧ ∃ h, q.f a = some (h, now) ∧ taken + h ≤ q.most + q.rate * (now - first))
def bTaken (a : List UInt8) (q : Qt) (taken n t : Nat) : Nat := if q.enough a n t then taken + n else taken
def bFirst (k first t : Nat) : Nat := if k = 0 then t else first
theorem BInv.now_le {a : List UInt8} {q : Qt} {k taken first now : Nat} (h : BInv a q k taken first now) : now ≤ 1000 * k ∧ taken ≤ 100000 * k := by
  rcases h with ⟨rfl, rfl, rfl, rfl, _⟩ | ⟨_, _, _, h1, h2, _⟩
  · exact ⟨by omega, by omega⟩
  · exact ⟨h1, h2⟩
theorem BInv.first_le {a : List UInt8} {q : Qt} {k taken first now : Nat} (h : BInv a q k taken first now) (d : Nat) : bFirst k first (now + d) ≤ now + d := by
  unfold bFirst
  rcases h with ⟨rfl, rfl, rfl, rfl, _⟩ | ⟨h0, _, h1, _⟩
  · simp
  · rw [if_neg (by omega)]; omega
theorem BInv.step {a : List UInt8} {q : Qt} {k taken first now : Nat} (h : BInv a q k taken first now) (n d : Nat) (hd : d ≤ 1000) (hn : n ≤ 100000) :
    BInv a (q.take a n (now + d)) (k + 1) (bTaken a q taken n (now + d)) (bFirst k first (now + d)) (now + d) ∧ bTaken a q taken n (now + d) ≤ q.most + q.rate * (now + d - bFirst k first (now + d)) := by
  have key : taken + (q.left (now + d)).has a (max q.now (now + d)) ≤ q.most + q.rate * (now + d - bFirst k first (now + d)) ∧ max q.now (now + d) = now + d ∧ bFirst k first (now + d) ≤ now + d := by
    rcases h with ⟨rfl, rfl, rfl, rfl, hf, hq⟩ | ⟨h0, hq, h1, h2, h3, x, hf, hx⟩
    · have e : (q.left (0 + d)).has a (max q.now (0 + d)) = q.most := by
        show (match q.f a with | none => q.most | some p => (q.left (0 + d)).fill p _) = q.most
        rw [hf]
      rw [e]
      exact ⟨by omega, by omega, by unfold bFirst; simp⟩
    · have e : (q.left (now + d)).has a (max q.now (now + d)) ≤ x + d * q.rate := by
        show (match q.f a with | none => q.most | some p => (q.left (now + d)).fill p _) ≤ _
        rw [hf, hq, show max now (now + d) = now + d by omega]
        refine Nat.le_trans (Nat.min_le_right _ _) ?_
        show x + (now + d - now) * q.rate ≤ _
        rw [show now + d - now = d by omega]
        exact Nat.le_refl _
      have e2 : bFirst k first (now + d) = first := if_neg (by omega)
      rw [e2]
      have e3 : q.rate * (now + d - first) = q.rate * (now - first) + d * q.rate := by
        rw [show now + d - first = (now - first) + d by omega, Nat.mul_add, Nat.mul_comm d]
      exact ⟨by omega, by omega, by omega⟩
  obtain ⟨k1, k2, k3⟩ := key
  have hk := h.now_le
  have hr : q.take a n (now + d) = { rate := q.rate, most := q.most, now := max q.now (now + d), f := fun s' => if s' = a then some (q.rest a n (now + d), max q.now (now + d)) else q.f s' } := rfl
  have hf : (q.take a n (now + d)).f a = some (q.rest a n (now + d), now + d) := by rw [hr]; show (if a = a then _ else _) = _; rw [if_pos rfl, k2]
  by_cases he : n ≤ (q.left (now + d)).has a (max q.now (now + d))
  · have e1 : bTaken a q taken n (now + d) = taken + n := by unfold bTaken Qt.enough; rw [if_pos (decide_eq_true he)]
    have e2 : q.rest a n (now + d) = (q.left (now + d)).has a (max q.now (now + d)) - n := if_pos he
    rw [e1]
    refine ⟨.inr ⟨by omega, k2, k3, by omega, by omega, _, hf, ?_⟩, by omega⟩
    rw [e2]
    show _ ≤ q.most + q.rate * _
    omega
  · have e1 : bTaken a q taken n (now + d) = taken := by unfold bTaken Qt.enough; rw [if_neg (by simp; omega)]
    have e2 : q.rest a n (now + d) = (q.left (now + d)).has a (max q.now (now + d)) := if_neg he
    rw [e1]
    refine ⟨.inr ⟨by omega, k2, k3, by omega, by omega, _, hf, ?_⟩, by omega⟩
    rw [e2]
    show _ ≤ q.most + q.rate * _
    omega
end Go.Proofs.Ytgclancneohpbaa
