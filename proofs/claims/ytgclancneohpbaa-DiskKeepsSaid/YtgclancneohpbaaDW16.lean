/- The program's disk: what Crash does, in plain words and in memory. -/
import Derived.Test.YtgclancneohpbaaDW15
namespace Go.Proofs.Ytgclancneohpbaa
open Go.RowKit Go.Maps Go.Shelf Go.Sort
def Dk.laid (k : Dk) (l : List DAct) : Dk := { k with safe := l.foldl (fun d a => a.does d) k.safe, slots := k.slots + l.length }
theorem Dk.laid_snoc (k : Dk) (l : List DAct) (a : DAct) : k.laid (l ++ [a]) = { k.laid l with safe := a.does (k.laid l).safe, slots := (k.laid l).slots + 1 } := by
  unfold Dk.laid
  simp [List.foldl_append, Nat.add_assoc]
theorem Dk.laid_nil (k : Dk) : k.laid [] = k := rfl
def Dk.cut (k : Dk) (keep : List UInt8) (s : List UInt8) : Dk :=
  { k.upd ((k.safe s).getD 0) ⟨(k.got ((k.safe s).getD 0)).data.take ((k.got ((k.safe s).getD 0)).safe + nextN keep ((k.got ((k.safe s).getD 0)).data.length - (k.got ((k.safe s).getD 0)).safe)), (k.got ((k.safe s).getD 0)).safe + nextN keep ((k.got ((k.safe s).getD 0)).data.length - (k.got ((k.safe s).getD 0)).safe)⟩ with
    used := k.used + ((k.got ((k.safe s).getD 0)).safe + nextN keep ((k.got ((k.safe s).getD 0)).data.length - (k.got ((k.safe s).getD 0)).safe) : Nat) }
def Dk.cuts (k : Dk) (keep : List UInt8) : List (List UInt8) → Dk
  | [] => k
  | s :: ns => (k.cut keep s).cuts keep.tail ns
theorem Dk.cuts_snoc (k : Dk) (keep : List UInt8) (ns : List (List UInt8)) (s : List UInt8) : k.cuts keep (ns ++ [s]) = (k.cuts keep ns).cut (keep.drop ns.length) s := by
  induction ns generalizing k keep with
  | nil => rfl
  | cons t ns ih =>
    show (k.cut keep t).cuts keep.tail (ns ++ [s]) = ((k.cut keep t).cuts keep.tail ns).cut _ s
    rw [ih]
    congr 1
    cases keep <;> simp
theorem Dk.cut_same (k : Dk) (keep s : List UInt8) : (k.cut keep s).dir = k.dir ∧ (k.cut keep s).safe = k.safe ∧ (k.cut keep s).acts = k.acts ∧ (k.cut keep s).cap = k.cap ∧ (k.cut keep s).room = k.room ∧ (k.cut keep s).slots = k.slots ∧ (k.cut keep s).down = k.down ∧ (k.cut keep s).fuse = k.fuse := ⟨rfl, rfl, rfl, rfl, rfl, rfl, rfl, rfl⟩
theorem Dk.cuts_same (k : Dk) (keep : List UInt8) (ns : List (List UInt8)) : (k.cuts keep ns).dir = k.dir ∧ (k.cuts keep ns).safe = k.safe ∧ (k.cuts keep ns).acts = k.acts ∧ (k.cuts keep ns).cap = k.cap ∧ (k.cuts keep ns).room = k.room ∧ (k.cuts keep ns).slots = k.slots ∧ (k.cuts keep ns).down = k.down ∧ (k.cuts keep ns).fuse = k.fuse := by
  induction ns generalizing k keep with
  | nil => exact ⟨rfl, rfl, rfl, rfl, rfl, rfl, rfl, rfl⟩
  | cons t ns ih => exact ih (k.cut keep t) keep.tail
theorem Dk.cut_live (k : Dk) (keep s : List UInt8) (p : Nat) (h : (k.file p).isSome = true) : ((k.cut keep s).file p).isSome = true := k.upd_live _ _ p h
theorem Dk.cuts_live (k : Dk) (keep : List UInt8) (ns : List (List UInt8)) (p : Nat) (h : (k.file p).isSome = true) : ((k.cuts keep ns).file p).isSome = true := by
  induction ns generalizing k keep with
  | nil => exact h
  | cons t ns ih => exact ih (k.cut keep t) keep.tail (k.cut_live keep t p h)
theorem Dk.cuts_small (k : Dk) (keep : List UInt8) (ns : List (List UInt8)) (m : Nat) (h : ∀ f x, k.file f = some x → x.data.length ≤ m) : ∀ f x, (k.cuts keep ns).file f = some x → x.data.length ≤ m := by
  induction ns generalizing k keep with
  | nil => exact h
  | cons t ns ih =>
    refine ih (k.cut keep t) keep.tail fun f x hx => ?_
    have e : (k.cut keep t).file = (k.upd ((k.safe t).getD 0) ⟨(k.got ((k.safe t).getD 0)).data.take ((k.got ((k.safe t).getD 0)).safe + nextN keep ((k.got ((k.safe t).getD 0)).data.length - (k.got ((k.safe t).getD 0)).safe)), (k.got ((k.safe t).getD 0)).safe + nextN keep ((k.got ((k.safe t).getD 0)).data.length - (k.got ((k.safe t).getD 0)).safe)⟩).file := rfl
    rw [e] at hx
    unfold Dk.upd at hx
    simp only at hx
    split at hx
    · obtain rfl := Option.some.inj hx
      simp only [List.length_take]
      have h1 : (k.got ((k.safe t).getD 0)).data.length ≤ m := by
        unfold Dk.got
        cases hg : k.file ((k.safe t).getD 0) with
        | none => exact Nat.zero_le _
        | some y => exact h _ y hg
      omega
    · exact h f x hx
theorem Dk.cuts_used (k : Dk) (keep : List UInt8) (ns : List (List UInt8)) (m : Nat) (h : ∀ f x, k.file f = some x → x.data.length ≤ m ∧ x.safe ≤ x.data.length) : k.used ≤ (k.cuts keep ns).used ∧ (k.cuts keep ns).used ≤ k.used + ns.length * m := by
  induction ns generalizing k keep with
  | nil => show k.used ≤ k.used ∧ k.used ≤ k.used + (0 : Nat) * m; omega
  | cons t ns ih =>
    have hg : (k.got ((k.safe t).getD 0)).data.length ≤ m ∧ (k.got ((k.safe t).getD 0)).safe ≤ (k.got ((k.safe t).getD 0)).data.length := by
      unfold Dk.got
      cases hg : k.file ((k.safe t).getD 0) with
      | none => exact ⟨Nat.zero_le _, Nat.le_refl _⟩
      | some y => exact h _ y hg
    have hn := nextN_le keep ((k.got ((k.safe t).getD 0)).data.length - (k.got ((k.safe t).getD 0)).safe)
    have h1 := ih (k.cut keep t) keep.tail fun f x hx => by
      have e : (k.cut keep t).file = (k.upd ((k.safe t).getD 0) ⟨(k.got ((k.safe t).getD 0)).data.take ((k.got ((k.safe t).getD 0)).safe + nextN keep ((k.got ((k.safe t).getD 0)).data.length - (k.got ((k.safe t).getD 0)).safe)), (k.got ((k.safe t).getD 0)).safe + nextN keep ((k.got ((k.safe t).getD 0)).data.length - (k.got ((k.safe t).getD 0)).safe)⟩).file := rfl
      rw [e] at hx
      unfold Dk.upd at hx
      simp only at hx
      split at hx
      · obtain rfl := Option.some.inj hx
        simp only [List.length_take]
        omega
      · exact h f x hx
    have e2 : (k.cut keep t).used = k.used + ((k.got ((k.safe t).getD 0)).safe + nextN keep ((k.got ((k.safe t).getD 0)).data.length - (k.got ((k.safe t).getD 0)).safe) : Nat) := rfl
    have e3 : (k.cuts keep (t :: ns)).used = ((k.cut keep t).cuts keep.tail ns).used := rfl
    rw [e2] at h1
    have e4 : ((t :: ns).length : Int) * m = ns.length * m + m := by rw [List.length_cons, Int.natCast_add, Int.add_mul]; simp
    rw [e3, e4]
    generalize (ns.length : Int) * (m : Int) = z at *
    omega
/-- all acts are laid; nothing is counted yet -/
def Dk.zero (k : Dk) (r : Nat) : Dk := { k with used := 0, room := r }
def Dk.rise (k : Dk) (r : Nat) : Dk := { k with dir := k.safe, acts := [], down := false, fuse := -1, room := r }
def Dk.kept (k : Dk) (keep : List UInt8) : Dk := (k.laid (k.acts.take (nextN keep k.acts.length))).zero (k.room + k.room)
def Dk.crashed (k : Dk) (keep : List UInt8) (ns : List (List UInt8)) : Dk := ((k.kept keep).cuts keep.tail ns).rise k.room
theorem own_prefix {w : World} {B c n m : Nat} {e : TypeId} {p : Option Addr} {xs : List Value} (h : w.ownsRow B e 1 (.slice p n c) n xs) (hm : m ≤ n) : w.ownsRow B e 1 (.slice p m c) m (xs.take m) := by
  obtain ⟨h0, ⟨h1, rfl⟩ | ⟨g, cap, cur, h1, h2, h3, h4, h5, h6, h7⟩⟩ := h
  · obtain rfl : m = 0 := by omega
    cases h1
    exact World.ownsRow_nil _ _ _ _
  · cases h1
    refine ⟨by rw [List.length_take, h0]; omega, .inr ⟨g, c, cur, rfl, h2, h3, by omega, h5, h6, ?_⟩⟩
    rw [← h7, List.take_take]
    congr 1
    omega
theorem bcells_take (l : List UInt8) (m : Nat) : (bcells l).take m = bcells (l.take m) := by unfold bcells; rw [List.map_take]
/-- what is so of every disk within Crash -/
structure Dk.mid (k : Dk) : Prop where
  slive : ∀ s f, k.safe s = some f → (k.file f).isSome = true
  small : ∀ f x, k.file f = some x → x.data.length ≤ 1000000000
theorem foldl_live {k : Dk} {l : List DAct} (hl : ∀ a, a ∈ l → ∀ p, a.file = some p → (k.file p).isSome = true) {g : List UInt8 → Option Nat} (hg : ∀ s f, g s = some f → (k.file f).isSome = true) : ∀ s f, l.foldl (fun d a => a.does d) g s = some f → (k.file f).isSome = true := by
  induction l generalizing g with
  | nil => exact hg
  | cons a l ih => exact ih (fun b hb => hl b (List.mem_cons_of_mem _ hb)) (does_live hg (hl a (List.mem_cons_self ..)))
theorem Dk.kept_live {k : Dk} (h : k.ok) (keep : List UInt8) : ∀ s f, (k.kept keep).safe s = some f → (k.file f).isSome = true :=
  foldl_live (k := k) (fun a ha => (h.acts a (List.mem_of_mem_take ha)).2) h.slive
theorem Dk.cuts_mid {k : Dk} (h : k.ok) (hr : k.room ≤ 4000) (keep keep' : List UInt8) (ns : List (List UInt8)) : ((k.kept keep).cuts keep' ns).mid := by
  refine ⟨fun s f hs => Dk.cuts_live _ _ _ f (Dk.kept_live h keep s f ?_), Dk.cuts_small _ _ _ _ fun f x hx => ?_⟩
  · rw [(Dk.cuts_same _ _ _).2.1] at hs
    exact hs
  · have := h.small f x hx; omega
/-- the safe directory alone is turned -/
theorem Dat.turnSafe {w w' : World} {B D bd bs n : Nat} {va : Value} {rows : Nat → Value} {k : Dk} (hd : Dat w B D bd bs n va rows k) {X' : DataW Unit} {g : List UInt8 → Option Nat} (hm : w'.ownsMap Try.prog 9 ptrR bs (k.slots + 1) X') (hX : dirIs X' g) (hk : Keeps (fun j => j = bs) w w') :
    Dat w' B D bd bs n va rows { k with safe := g, slots := k.slots + 1 } := by
  obtain ⟨X, h1, h2⟩ := hd.dir
  obtain ⟨Y, h3, h4⟩ := hd.safe
  refine ⟨hd.blk.keeps hk (fun e => map_ne h3 hd.blk e.symm), ⟨X, map_keeps h1 hk hd.two, h2⟩, ⟨X', hm, hX⟩, hd.two, own_keeps hd.acts hk (fun g hg e => own_map_ne hd.acts h3 (by rw [hg, e])), fun f x hf => ?_, hd.apart, hd.base⟩
  obtain ⟨f1, f2, f3, f4⟩ := hd.file f x hf
  exact ⟨f1, f2.keeps hk (fun e => map_ne h3 f2 e.symm), own_keeps f3 hk (fun g hg e => own_map_ne f3 h3 (by rw [hg, e])), f4⟩
theorem acells_get (l : List DAct) (i : Nat) (a : DAct) (h : l[i]? = some a) : (acells l)[3 * i]? = some (.string a.frm) ∧ (acells l)[3 * i + 1]? = some (.string a.to) ∧ (acells l)[3 * i + 2]? = some (ptrV a.file) := by
  induction l generalizing i with
  | nil => simp at h
  | cons b l ih =>
    cases i with
    | zero =>
      obtain rfl := Option.some.inj h
      exact ⟨rfl, rfl, rfl⟩
    | succ i =>
      have := ih i (by simpa using h)
      have e : acells (b :: l) = [.string b.frm, .string b.to, ptrV b.file] ++ acells l := rfl
      rw [e, show 3 * (i + 1) = 3 + 3 * i by omega, show 3 + 3 * i + 1 = 3 + (3 * i + 1) by omega, show 3 + 3 * i + 2 = 3 + (3 * i + 2) by omega]
      have hs : ∀ j, ([Value.string b.frm, .string b.to, ptrV b.file] ++ acells l)[3 + j]? = (acells l)[j]? := fun j => by
        rw [List.getElem?_append_right (by simp)]; simp
      rw [hs, hs, hs]
      exact this
end Go.Proofs.Ytgclancneohpbaa
