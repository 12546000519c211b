/- Plain words on quotas. No program in sight. -/
namespace Go.Proofs.Ytgclancneohpbaa
/-- a quota: what each client had, and when -/
structure Qt where
  (rate most now : Nat)
  f : List UInt8 → Option (Nat × Nat)
def Qt.fill (q : Qt) (p : Nat × Nat) (t : Nat) : Nat := min q.most (p.1 + (t - p.2) * q.rate)
structure Qt.ok (q : Qt) : Prop where
  rate : q.rate ≤ 4294967296
  most : q.most ≤ 4294967296
  now : q.now < 18446744073709551616
  each : ∀ s p, q.f s = some p → p.1 ≤ q.most ∧ p.2 ≤ q.now
def Qt.new (rate most : Nat) : Qt := ⟨min rate 4294967296, min most 4294967296, 0, fun _ => none⟩
theorem Qt.new_ok (rate most : Nat) : (Qt.new rate most).ok := ⟨Nat.min_le_right _ _, Nat.min_le_right _ _, by show 0 < _; omega, fun s p h => by simp [Qt.new] at h⟩
/-- what a client has at a tick (that isn't earlier than any before) -/
def Qt.has (q : Qt) (s : List UInt8) (t : Nat) : Nat := match q.f s with
  | none => q.most
  | some p => q.fill p t
def Qt.left (q : Qt) (t : Nat) : Qt := { q with now := max q.now t }
def Qt.put (q : Qt) (s : List UInt8) (p : Nat × Nat) : Qt := { q with f := fun s' => if s' = s then some p else q.f s' }
def Qt.rest (q : Qt) (s : List UInt8) (n t : Nat) : Nat := if n ≤ (q.left t).has s (max q.now t) then (q.left t).has s (max q.now t) - n else (q.left t).has s (max q.now t)
def Qt.take (q : Qt) (s : List UInt8) (n t : Nat) : Qt := (q.left t).put s (q.rest s n t, max q.now t)
def Qt.enough (q : Qt) (s : List UInt8) (n t : Nat) : Bool := decide (n ≤ (q.left t).has s (max q.now t))
theorem Qt.fill_le (q : Qt) (p : Nat × Nat) (t : Nat) : q.fill p t ≤ q.most := Nat.min_le_left _ _
theorem Qt.has_le (q : Qt) (s : List UInt8) (t : Nat) : q.has s t ≤ q.most := by
  unfold Qt.has
  split
  · exact Nat.le_refl _
  · exact q.fill_le _ _
theorem Qt.left_ok {q : Qt} (h : q.ok) {t : Nat} (ht : t < 18446744073709551616) : (q.left t).ok :=
  ⟨h.rate, h.most, by have := h.now; show max _ _ < _; omega, fun s p hp => by have := h.each s p hp; exact ⟨this.1, by show _ ≤ max _ _; omega⟩⟩
theorem Qt.put_ok {q : Qt} (h : q.ok) (s : List UInt8) {p : Nat × Nat} (h1 : p.1 ≤ q.most) (h2 : p.2 ≤ q.now) : (q.put s p).ok :=
  ⟨h.rate, h.most, h.now, fun s' p' hp => by
    simp only [Qt.put] at hp
    split at hp
    · obtain rfl := Option.some.inj hp; exact ⟨h1, h2⟩
    · exact h.each s' p' hp⟩
theorem Qt.rest_le (q : Qt) (s : List UInt8) (n t : Nat) : q.rest s n t ≤ q.most := by
  have := (q.left t).has_le s (max q.now t)
  unfold Qt.rest
  show _ ≤ (q.left t).most
  split <;> omega
theorem Qt.take_ok {q : Qt} (h : q.ok) (s : List UInt8) (n : Nat) {t : Nat} (ht : t < 18446744073709551616) : (q.take s n t).ok :=
  Qt.put_ok (Qt.left_ok h ht) s (q.rest_le s n t) (Nat.le_refl _)
/-- what filling reckons: in 64 bits -/
theorem fill_hi {q : Qt} (h : q.ok) {p : Nat × Nat} {t : Nat} (hi : 0 < (t - p.2) * q.rate / 18446744073709551616) : q.fill p t = q.most := by
  have := h.most
  unfold Qt.fill
  omega
theorem fill_gain {q : Qt} {p : Nat × Nat} {t : Nat} (hi : (t - p.2) * q.rate / 18446744073709551616 = 0) (hg : q.most - p.1 < (t - p.2) * q.rate % 18446744073709551616) : q.fill p t = q.most := by
  unfold Qt.fill
  omega
theorem fill_sum {q : Qt} {p : Nat × Nat} (hp : p.1 ≤ q.most) {t : Nat} (hi : (t - p.2) * q.rate / 18446744073709551616 = 0) (hg : ¬ q.most - p.1 < (t - p.2) * q.rate % 18446744073709551616) : q.fill p t = p.1 + (t - p.2) * q.rate % 18446744073709551616 := by
  unfold Qt.fill
  omega
end Go.Proofs.Ytgclancneohpbaa
