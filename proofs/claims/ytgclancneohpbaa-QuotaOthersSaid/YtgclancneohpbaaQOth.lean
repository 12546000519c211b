/- Plain: what others take counts for nothing. -/
import Derived.Test.YtgclancneohpbaaQt
namespace Go.Proofs.Ytgclancneohpbaa
/-- two quotas that tell the same of a client -/
structure QSame (me : List UInt8) (q o : Qt) : Prop where
  rate : q.rate = o.rate
  most : q.most = o.most
  now : q.now = o.now
  f : q.f me = o.f me
variable {me : List UInt8} {q o : Qt}
theorem QSame.has (h : QSame me q o) (t : Nat) : q.has me t = o.has me t := by
  unfold Qt.has
  rw [h.f, h.most]
  cases o.f me with
  | none => rfl
  | some p => simp only [Qt.fill, h.most, h.rate]
theorem QSame.left (h : QSame me q o) (t : Nat) : QSame me (q.left t) (o.left t) := ⟨h.rate, h.most, by show max _ _ = max _ _; rw [h.now], h.f⟩
theorem QSame.enough (h : QSame me q o) (n t : Nat) : q.enough me n t = o.enough me n t := by
  unfold Qt.enough
  rw [(h.left t).has, h.now]
theorem QSame.rest (h : QSame me q o) (n t : Nat) : q.rest me n t = o.rest me n t := by
  unfold Qt.rest
  rw [(h.left t).has, h.now]
theorem QSame.take (h : QSame me q o) (n t : Nat) : QSame me (q.take me n t) (o.take me n t) :=
  ⟨h.rate, h.most, by show max _ _ = max _ _; rw [h.now], by
    show (if me = me then _ else _) = (if me = me then _ else _)
    rw [if_pos rfl, if_pos rfl, h.rest, h.now]⟩
theorem QSame.other (h : QSame me q o) {s : List UInt8} (hs : s ≠ me) (n t : Nat) : QSame me (q.take s n t) (o.left t) :=
  ⟨h.rate, h.most, by show max _ _ = max _ _; rw [h.now], by
    show (if me = s then _ else q.f me) = o.f me
    rw [if_neg (fun e => hs e.symm)]
    exact h.f⟩
end Go.Proofs.Ytgclancneohpbaa
