/- The document's disk in memory: directories that stay as they are, acts and files in rows of their own. -/
import Derived.Test.YtgclancneohpbaaDAt
import Derived.Test.YtgclancneohpbaaHold
import Derived.Maps.AppendAt
import Derived.Sort.Walk0
namespace Go.Proofs.Ytgclancneohpbaa
open Go.RowKit Go.Maps Go.Shelf
def strV (l : List UInt8) : Value := .string ⟨l.toArray⟩
theorem strV_mk (s : ByteArray) : Value.string s = strV s.data.toList := by
  unfold strV; rw [toArr]
/-- one string for each list of bytes -/
theorem str_of (l : List UInt8) : ∃ s : ByteArray, strV l = .string s ∧ s.data.toList = l := ⟨⟨l.toArray⟩, rfl, by simp⟩
def ncells (d : RDir) : List Value := d.flatMap fun n => [strV n.1, .int .i64 n.2]
def racells (l : List RAct) : List Value := l.flatMap fun a => [strV a.frm, strV a.to, .int .i64 a.file]
def fcells (dv : List Value) (F : List File) : List Value := (dv.zip F).flatMap fun x => [x.1, .int .i64 x.2.safe]
theorem ncells_at : ∀ (d : RDir) (k : Nat) (n : List UInt8 × Nat), d[k]? = some n → (ncells d)[k * 2]? = some (strV n.1) ∧ (ncells d)[k * 2 + 1]? = some (.int .i64 n.2)
  | [], k, c, h => by simp at h
  | d :: cs, 0, c, h => by
    obtain rfl : d = c := by simpa using h
    exact ⟨rfl, rfl⟩
  | d :: cs, k + 1, c, h => by
    obtain ⟨h1, h2⟩ := ncells_at cs k c (by simpa using h)
    have e : ncells (d :: cs) = strV d.1 :: .int .i64 d.2 :: ncells cs := rfl
    rw [e, show (k + 1) * 2 = k * 2 + 1 + 1 by omega]
    exact ⟨by simpa using h1, by simpa using h2⟩
theorem ncells_length (d : RDir) : (ncells d).length = d.length * 2 := by
  induction d with
  | nil => rfl
  | cons c cs ih => simp [ncells] at ih ⊢; omega
theorem ncells_app (d e : RDir) : ncells (d ++ e) = ncells d ++ ncells e := by unfold ncells; rw [List.flatMap_append]
/-- a row that lies somewhere, and stays -/
def RowAt (w : World) (T : TypeId) (v : Value) (n : Nat) (xs : List Value) : Prop := (v = .slice none 0 0 ∧ n = 0) ∨ ∃ (g c : Nat) (cur : Array Value), v = .slice (some ⟨g, 0, none⟩) n c ∧ n ≤ c ∧ Blk w g T cur ∧ ∀ (i : Nat) (u : Value), xs[i]? = some u → cur[i]? = some u
section
variable {w w' : World} {T : TypeId} {v : Value} {n : Nat} {xs : List Value}
theorem RowAt.slice (h : RowAt w T v n xs) : ∃ p c, v = .slice p n c := by
  rcases h with ⟨rfl, rfl⟩ | ⟨g, c, cur, rfl, _⟩
  · exact ⟨_, _, rfl⟩
  · exact ⟨_, _, rfl⟩
theorem RowAt.keeps {S : Nat → Prop} (h : RowAt w T v n xs) (hk : Keeps S w w') (hs : ∀ g, v.ownBlock = some g → ¬ S g) : RowAt w' T v n xs := by
  rcases h with h | ⟨g, c, cur, rfl, hc, hl, h⟩
  · exact .inl h
  · exact .inr ⟨g, c, cur, rfl, hc, hl.keeps hk (hs g rfl), h⟩
theorem RowAt.later (h : RowAt w T v n xs) (hb : Below w.heap.size w w') : RowAt w' T v n xs := h.keeps (S := fun _ => False) (.of_below hb) (fun _ _ => id)
theorem RowAt.of_own {B size : Nat} (h : w.ownsRow B T size v n xs) : RowAt w T v n xs := by
  obtain ⟨_, ⟨rfl, h0⟩ | ⟨g, cap, cur, rfl, h1, h2, h3, h4, h5, h6⟩⟩ := h
  · exact .inl ⟨rfl, h0⟩
  · refine .inr ⟨g, cap, cur, rfl, h3, h2, fun i u hu => ?_⟩
    rw [← h6, List.getElem?_take] at hu
    split at hu
    · rw [← hu]; simp
    · cases hu
theorem RowAt.blk (h : RowAt w T v n xs) : ∀ g, v.ownBlock = some g → ∃ cur, Blk w g T cur := by
  rcases h with ⟨rfl, _⟩ | ⟨g, c, cur, rfl, _, hl, _⟩
  · intro g hg; cases hg
  · intro g' hg; obtain rfl := Option.some.inj hg; exact ⟨cur, hl⟩
theorem RowAt.lt (h : RowAt w T v n xs) : ∀ g, v.ownBlock = some g → g < w.heap.size := fun g hg => by obtain ⟨cur, hb⟩ := h.blk g hg; exact hb.lt
theorem RowAt.cell (h : RowAt w T v n xs) (hn : 0 < n) : ∃ g c, v = .slice (some ⟨g, 0, none⟩) n c ∧ n ≤ c ∧ g < w.heap.size ∧ ∀ i u, xs[i]? = some u → w.cell? ⟨g, i, none⟩ = some u := by
  rcases h with ⟨_, rfl⟩ | ⟨g, c, cur, rfl, hc, hl, h⟩
  · omega
  · exact ⟨g, c, rfl, hc, hl.lt, fun i u hu => by rw [hl.cell]; exact h i u hu⟩
end
theorem own_blk {w : World} {B size n : Nat} {T : TypeId} {v : Value} {xs : List Value} (h : w.ownsRow B T size v n xs) : ∀ g, v.ownBlock = some g → ∃ cur, Blk w g T cur := (RowAt.of_own h).blk
/-- a directory lies somewhere -/
def DirAt (w : World) (v : Value) (d : RDir) : Prop := RowAt w 108 v d.length (ncells d)
theorem DirAt.slice {w : World} {v : Value} {d : RDir} (h : DirAt w v d) : ∃ p c, v = .slice p d.length c := RowAt.slice h
theorem DirAt.keeps {S : Nat → Prop} {w w' : World} {v : Value} {d : RDir} (h : DirAt w v d) (hk : Keeps S w w') (hs : ∀ g, v.ownBlock = some g → ¬ S g) : DirAt w' v d := RowAt.keeps h hk hs
theorem DirAt.later {w w' : World} {v : Value} {d : RDir} (h : DirAt w v d) (hb : Below w.heap.size w w') : DirAt w' v d := RowAt.later h hb
theorem DirAt.of_own {w : World} {B : Nat} {v : Value} {d : RDir} (h : w.ownsRow B 108 2 v d.length (ncells d)) : DirAt w v d := RowAt.of_own h
theorem DirAt.lt {w : World} {v : Value} {d : RDir} (h : DirAt w v d) : ∀ g, v.ownBlock = some g → g < w.heap.size := RowAt.lt h
/-- one name of it -/
theorem DirAt.name {w : World} {v : Value} {d : RDir} (h : DirAt w v d) {k : Nat} (hk : k < d.length) : ∃ g c n s, v = .slice (some ⟨g, 0, none⟩) d.length c ∧ d.length ≤ c ∧ g < w.heap.size ∧ d[k]? = some n ∧ s.data.toList = n.1 ∧ w.cell? ⟨g, k * 2, none⟩ = some (.string s) ∧ w.cell? ⟨g, k * 2 + 1, none⟩ = some (.int .i64 n.2) := by
  obtain ⟨g, c, rfl, hc, hl, h⟩ := RowAt.cell h (by omega)
  have hn := List.getElem?_eq_getElem hk
  obtain ⟨h1, h2⟩ := ncells_at d k _ hn
  obtain ⟨s, hs1, hs2⟩ := str_of d[k].1
  exact ⟨g, c, d[k], s, rfl, hc, hl, hn, hs2, by rw [← hs1]; exact h _ _ h1, h _ _ h2⟩
theorem str_eq (a b : ByteArray) : (a.toList == b.toList) = decide (a.data.toList = b.data.toList) := by
  rw [Lib.toList_data, Lib.toList_data, Bool.eq_iff_iff]; simp
theorem less_lt' (a b : ByteArray) : Op.bytesLess a.toList b.toList = decide (a.data.toList < b.data.toList) := by
  rw [bytesLess_eq, Lib.toList_data, Lib.toList_data]
theorem rfind_take {d : RDir} {s : List UInt8} {k : Nat} {n : List UInt8 × Nat} (hn : d[k]? = some n) (h : rfind (d.take k) s = none) : rfind d s = if n.1 = s then some n.2 else rfind (d.drop (k + 1)) s := by
  have hk : k < d.length := (List.getElem?_eq_some_iff.1 hn).1
  have e : d = d.take k ++ (n :: d.drop (k + 1)) := by
    have : d[k] = n := by rw [List.getElem?_eq_getElem hk] at hn; exact Option.some.inj hn
    rw [← this, ← List.drop_eq_getElem_cons hk, List.take_append_drop]
  conv => lhs; rw [e, rfind_append, h]
  rfl
theorem rfind_take_succ {d : RDir} {s : List UInt8} {k : Nat} {n : List UInt8 × Nat} (hn : d[k]? = some n) (h : rfind (d.take k) s = none) (hne : n.1 ≠ s) : rfind (d.take (k + 1)) s = none := by
  rw [List.take_add_one, hn, rfind_append, h]
  show (none : Option Nat).or (if n.1 = s then some n.2 else none) = none
  rw [if_neg hne]; rfl
/-- the number of a name's file, or -1 -/
def numI : Option Nat → Int
  | none => -1
  | some i => i
end Go.Proofs.Ytgclancneohpbaa
