/- A row that lies somewhere, and stays. -/
import Derived.Test.YtaikedlkkjnffaaGreatDoorKeep
import Derived.Maps.AppendAt
namespace Go.Proofs.YtaikedlkkjnffaaGreatDoor
open Go.RowKit
/-- a row that lies somewhere, and stays -/
def RowAt (w : World) (T : TypeId) (v : Value) (n : Nat) (xs : List Value) : Prop := (v = .slice none 0 0 ∧ n = 0) ∨ ∃ (g c : Nat) (cur : Array Value), v = .slice (some ⟨g, 0, none⟩) n c ∧ n ≤ c ∧ Blk w g T cur ∧ ∀ (i : Nat) (u : Value), xs[i]? = some u → cur[i]? = some u
section
variable {w w' : World} {T : TypeId} {v : Value} {n : Nat} {xs : List Value}
theorem RowAt.slice (h : RowAt w T v n xs) : ∃ p c, v = .slice p n c := by
  rcases h with ⟨rfl, rfl⟩ | ⟨g, c, cur, rfl, _⟩
  · exact ⟨_, _, rfl⟩
  · exact ⟨_, _, rfl⟩
theorem RowAt.keeps {S : Nat → Prop} (h : RowAt w T v n xs) (hk : Keeps S w w') (hs : ∀ g, v.ownBlock = some g → ¬ S g) : RowAt w' T v n xs := by
  rcases h with h | ⟨g, c, cur, rfl, hc, hl, h⟩
  · exact .inl h
  · exact .inr ⟨g, c, cur, rfl, hc, hl.keeps hk (hs g rfl), h⟩
theorem RowAt.later (h : RowAt w T v n xs) (hb : Below w.heap.size w w') : RowAt w' T v n xs := h.keeps (S := fun _ => False) (.of_below hb) (fun _ _ => id)
theorem RowAt.of_own {B size : Nat} (h : w.ownsRow B T size v n xs) : RowAt w T v n xs := by
  obtain ⟨_, ⟨rfl, h0⟩ | ⟨g, cap, cur, rfl, h1, h2, h3, h4, h5, h6⟩⟩ := h
  · exact .inl ⟨rfl, h0⟩
  · refine .inr ⟨g, cap, cur, rfl, h3, h2, fun i u hu => ?_⟩
    rw [← h6, List.getElem?_take] at hu
    split at hu
    · rw [← hu]; simp
    · cases hu
theorem RowAt.blk (h : RowAt w T v n xs) : ∀ g, v.ownBlock = some g → ∃ cur, Blk w g T cur := by
  rcases h with ⟨rfl, _⟩ | ⟨g, c, cur, rfl, _, hl, _⟩
  · intro g hg; cases hg
  · intro g' hg; obtain rfl := Option.some.inj hg; exact ⟨cur, hl⟩
theorem RowAt.lt (h : RowAt w T v n xs) : ∀ g, v.ownBlock = some g → g < w.heap.size := fun g hg => by obtain ⟨cur, hb⟩ := h.blk g hg; exact hb.lt
theorem RowAt.cell (h : RowAt w T v n xs) (hn : 0 < n) : ∃ g c, v = .slice (some ⟨g, 0, none⟩) n c ∧ n ≤ c ∧ g < w.heap.size ∧ ∀ i u, xs[i]? = some u → w.cell? ⟨g, i, none⟩ = some u := by
  rcases h with ⟨_, rfl⟩ | ⟨g, c, cur, rfl, hc, hl, h⟩
  · omega
  · exact ⟨g, c, rfl, hc, hl.lt, fun i u hu => by rw [hl.cell]; exact h i u hu⟩
end
theorem own_blk {w : World} {B size n : Nat} {T : TypeId} {v : Value} {xs : List Value} (h : w.ownsRow B T size v n xs) : ∀ g, v.ownBlock = some g → ∃ cur, Blk w g T cur := (RowAt.of_own h).blk
theorem addr_at (o j : Nat) : (⟨o, 0, none⟩ : Addr).add j = ⟨o, j, none⟩ := by
  unfold Addr.add
  split
  · rename_i h0; subst h0; rfl
  · simp
theorem own_slice {w : World} {B k m : Nat} {e : TypeId} {v : Value} {xs : List Value} (h : w.ownsRow B e k v m xs) : ∃ p c, v = .slice p m c := by
  obtain ⟨_, ⟨h, rfl⟩ | ⟨g, cap, cur, h, _⟩⟩ := h
  · exact ⟨_, _, h⟩
  · exact ⟨_, _, h⟩
/-- an append, kept shut -/
def dappOp (tys : Array TypeId) (ty : TypeId) (args : Array Value) : Sem Value := Builtin.append_ tys ty args
theorem dapp_op (tys : Array TypeId) (ty : TypeId) (args : Array Value) : Builtin.append_ tys ty args = dappOp tys ty args := rfl
end Go.Proofs.YtaikedlkkjnffaaGreatDoor
