/- The document's disk beside the program's: what is done to both, one thing behind the other. -/
import Derived.Test.YtgclancneohpbaaRD
namespace Go.Proofs.Ytgclancneohpbaa
def RD.may (r : RD) (ok : Bool) : Int := if r.down then 6 else if ok then 0 else 2
def RD.burns (r : RD) : Bool := !(r.left == 0)
def RD.burn (r : RD) : RD := if r.left = 0 then { r with down := true } else if 0 < r.left then { r with left := r.left - 1 } else r
def RD.used (r : RD) : Nat := rsum r.files (rnums r.dir)
def RD.act (r : RD) (a : RAct) : RD := { r.burn with acts := r.burn.acts ++ [a], dir := rdone r.burn.dir a }
def RD.findE (r : RD) (s : List UInt8) : Int := if r.may (dName s) = 0 then (if (rfind r.dir s).isSome then 0 else 4) else r.may (dName s)
def RD.num (r : RD) (s : List UInt8) : Nat := (rfind r.dir s).getD 0
def RD.got (r : RD) (i : Nat) : File := r.files.getD i ⟨[], 0⟩
def RD.createE (r : RD) (s : List UInt8) : Int := if r.findE s = 0 then 3 else if r.findE s = 4 then errDown r.burns else r.findE s
def RD.create (r : RD) (s : List UInt8) : RD := if r.findE s = 4 then (if r.burns then { r.act ⟨[], s, r.files.length⟩ with files := r.files ++ [⟨[], 0⟩] } else r.burn) else r
def RD.appE (r : RD) (s : List UInt8) (n : Nat) : Int := if r.findE s = 0 then (if r.cap < r.used + n then 5 else errDown r.burns) else r.findE s
def RD.append (r : RD) (s b : List UInt8) : RD := if r.findE s = 0 then (if r.cap < r.used + b.length then r else if r.burns then { r.burn with files := r.files.set (r.num s) ⟨(r.got (r.num s)).data ++ b, (r.got (r.num s)).safe⟩ } else r.burn) else r
def RD.readB (r : RD) (s : List UInt8) : List UInt8 := if r.findE s = 0 then (r.got (r.num s)).data else []
def RD.syncE (r : RD) (s : List UInt8) : Int := if r.findE s = 0 then errDown r.burns else r.findE s
def RD.sync (r : RD) (s : List UInt8) : RD := if r.findE s = 0 then (if r.burns then { r.burn with files := r.files.set (r.num s) ⟨(r.got (r.num s)).data, (r.got (r.num s)).data.length⟩ } else r.burn) else r
def RD.syncDirE (r : RD) : Int := if r.down then 6 else errDown r.burns
def RD.syncDir (r : RD) : RD := if r.down then r else if r.burns then { r.burn with safe := r.burn.dir, acts := [] } else r.burn
def RD.renameE (r : RD) (a b : List UInt8) : Int := if r.may (dName a && dName b) = 0 then (if r.findE a = 0 then errDown r.burns else r.findE a) else r.may (dName a && dName b)
def RD.rename (r : RD) (a b : List UInt8) : RD := if r.may (dName a && dName b) = 0 then (if r.findE a = 0 then (if r.burns then r.act ⟨a, b, r.num a⟩ else r.burn) else r) else r
def RD.removeE (r : RD) (a : List UInt8) : Int := if r.findE a = 0 then errDown r.burns else r.findE a
def RD.remove (r : RD) (a : List UInt8) : RD := if r.findE a = 0 then (if r.burns then r.act ⟨a, [], 0⟩ else r.burn) else r
def RD.fused (r : RD) (n : Int) : RD := { r with left := max n (-1) }
def RD.usedA (r : RD) : Int := if r.down then 0 else r.used
def RD.list (r : RD) : List (List UInt8) := if r.down then [] else r.dir.map Prod.fst
def rcutN (F : List File) (keep : List UInt8) (i : Nat) : Nat := (F.getD i ⟨[], 0⟩).safe + nextN keep ((F.getD i ⟨[], 0⟩).data.length - (F.getD i ⟨[], 0⟩).safe)
def rcut (F : List File) (keep : List UInt8) (i : Nat) : List File := F.set i ⟨(F.getD i ⟨[], 0⟩).data.take (rcutN F keep i), rcutN F keep i⟩
def rcuts (F : List File) (keep : List UInt8) : List Nat → List File
  | [] => F
  | i :: l => rcuts (rcut F keep i) keep.tail l
def RD.kept (r : RD) (keep : List UInt8) : RDir := (r.acts.take (nextN keep r.acts.length)).foldl rdone r.safe
def RD.crash (r : RD) (keep : List UInt8) : RD := ⟨r.cap, false, -1, rcuts r.files keep.tail (rnums (r.kept keep)), r.kept keep, r.kept keep, []⟩
def RD.new (cap : Int) : RD := ⟨(min (max cap 0) 16777216).toNat, false, -1, [], [], [], []⟩
theorem rset_mem {d : RDir} (h : RSorted d) {s : List UInt8} {f : Option Nat} {n : List UInt8 × Nat} (hn : n ∈ rset d s f) : n ∈ d ∨ (n.1 = s ∧ f = some n.2) := by
  cases f with
  | none =>
    have hn : n ∈ rput s 0 true d := hn
    rw [rput_true] at hn
    exact .inl (List.mem_filter.1 hn).1
  | some i =>
    have hn : n ∈ rput s i false d := hn
    rw [rput_false_eq h, List.mem_append, List.mem_cons] at hn
    rcases hn with h | rfl | h
    · exact .inl (rmem_lo h)
    · exact .inr ⟨rfl, rfl⟩
    · exact .inl (rmem_hi h)
/-- a directory is that one -/
structure DirSim (g : List UInt8 → Option Nat) (d : RDir) (bl : List Nat) : Prop where
  sorted : RSorted d
  lt : ∀ i ∈ rnums d, i < bl.length
  named : ∀ n ∈ d, n.1 ≠ []
  at_ : ∀ s, g s = (rfind d s).map fun i => bl.getD i 0
def actOf (bl : List Nat) (a : RAct) : DAct := ⟨⟨a.frm.toArray⟩, ⟨a.to.toArray⟩, if a.to = [] then none else some (bl.getD a.file 0)⟩
structure Sim (k : Dk) (r : RD) (bl : List Nat) : Prop where
  cap : k.cap = r.cap
  down : k.down = r.down
  left : k.fuse = r.left
  len : r.files.length = bl.length
  nodup : bl.Nodup
  file : ∀ i x, r.files[i]? = some x → k.file (bl.getD i 0) = some x
  dir : DirSim k.dir r.dir bl
  safe : DirSim k.safe r.safe bl
  acts : k.acts = r.acts.map (actOf bl)
  actLt : ∀ a ∈ r.acts, a.to ≠ [] → a.file < bl.length
  hist : r.dir = r.acts.foldl rdone r.safe
  inj : ∀ j, (rnums ((r.acts.take j).foldl rdone r.safe)).Nodup
  used : k.used = (r.used : Int)
theorem DirSim.grow {g : List UInt8 → Option Nat} {d : RDir} {bl : List Nat} (h : DirSim g d bl) (f : Nat) : DirSim g d (bl ++ [f]) :=
  ⟨h.sorted, fun i hi => by have := h.lt i hi; simp; omega, h.named, fun s => by
    rw [h.at_ s]
    cases hf : rfind d s with
    | none => rfl
    | some i =>
      have := h.lt i (List.mem_map.2 ⟨_, rfind_mem hf, rfl⟩)
      simp only [Option.map_some, List.getD_eq_getElem?_getD, List.getElem?_append_left this]⟩
theorem actOf_grow {bl : List Nat} {a : RAct} (h : a.to ≠ [] → a.file < bl.length) (f : Nat) : actOf (bl ++ [f]) a = actOf bl a := by
  unfold actOf
  by_cases e : a.to = []
  · rw [if_pos e, if_pos e]
  · rw [if_neg e, if_neg e]
    simp only [List.getD_eq_getElem?_getD, List.getElem?_append_left (h e)]
theorem isEmpty_of (l : List UInt8) : (⟨l.toArray⟩ : ByteArray).toList.isEmpty = l.isEmpty := by
  rw [Lib.toList_data]
theorem does_sim {g : List UInt8 → Option Nat} {d : RDir} {bl : List Nat} (h : DirSim g d bl) {a : RAct} (ha : a.to ≠ [] → a.file < bl.length) : DirSim ((actOf bl a).does g) (rdone d a) bl := by
  have h1 : DirSim (if a.frm.isEmpty then g else drop g a.frm) (if a.frm = [] then d else rset d a.frm none) bl := by
    by_cases e : a.frm = []
    · rw [if_pos e, e]; exact h
    · rw [if_neg e, if_neg (by simpa using e)]
      refine ⟨rset_sorted h.sorted _ _, fun i hi => ?_, fun n hn => ?_, fun s => ?_⟩
      · rcases rnums_set_mem h.sorted hi with e | e
        · cases e
        · exact h.lt i e
      · rcases rset_mem h.sorted hn with h' | ⟨_, h'⟩
        · exact h.named n h'
        · cases h'
      · rw [rfind_set h.sorted]
        unfold drop
        split
        · rfl
        · exact h.at_ s
  unfold rdone DAct.does actOf
  by_cases e : a.to = []
  · simp only [e, if_true, isEmpty_of]
    exact h1
  · simp only [e, if_false, isEmpty_of]
    refine ⟨rset_sorted h1.sorted _ _, fun i hi => ?_, fun n hn => ?_, fun s => ?_⟩
    · rcases rnums_set_mem h1.sorted hi with e' | e'
      · obtain rfl := Option.some.inj e'; exact ha e
      · exact h1.lt i e'
    · rcases rset_mem h1.sorted hn with h' | ⟨h', _⟩
      · exact h1.named n h'
      · rw [h']; exact e
    · rw [rfind_set h1.sorted]
      unfold lay
      split
      · rfl
      · exact h1.at_ s
theorem foldl_sim {bl : List Nat} (l : List RAct) (hl : ∀ a ∈ l, a.to ≠ [] → a.file < bl.length) {g : List UInt8 → Option Nat} {d : RDir} (h : DirSim g d bl) : DirSim ((l.map (actOf bl)).foldl (fun d a => a.does d) g) (l.foldl rdone d) bl := by
  induction l generalizing g d with
  | nil => exact h
  | cons a l ih => exact ih (fun b hb => hl b (List.mem_cons_of_mem _ hb)) (does_sim h (hl a List.mem_cons_self))
section
variable {k : Dk} {r : RD} {bl : List Nat}
theorem Sim.may (h : Sim k r bl) (b : Bool) : k.may b = r.may b := by unfold Dk.may RD.may; rw [h.down]
theorem Sim.burns (h : Sim k r bl) : k.burns = r.burns := by unfold Dk.burns RD.burns; rw [h.left]
theorem Sim.findE (h : Sim k r bl) (s : List UInt8) : k.findE s = r.findE s := by
  unfold Dk.findE RD.findE
  rw [h.may, h.dir.at_ s]
  cases rfind r.dir s <;> rfl
theorem Sim.used' (h : Sim k r bl) : k.used = (r.used : Int) := h.used
theorem Sim.burn (h : Sim k r bl) : Sim k.burn r.burn bl := by
  unfold Dk.burn RD.burn
  rw [h.left]
  split
  · exact ⟨h.cap, rfl, rfl, h.len, h.nodup, h.file, h.dir, h.safe, h.acts, h.actLt, h.hist, h.inj, h.used⟩
  · split
    · exact ⟨h.cap, h.down, rfl, h.len, h.nodup, h.file, h.dir, h.safe, h.acts, h.actLt, h.hist, h.inj, h.used⟩
    · exact h
theorem RD.burn_same (r : RD) : r.burn.cap = r.cap ∧ r.burn.files = r.files ∧ r.burn.dir = r.dir ∧ r.burn.safe = r.safe ∧ r.burn.acts = r.acts ∧ r.burn.used = r.used := by
  unfold RD.burn
  split
  · exact ⟨rfl, rfl, rfl, rfl, rfl, rfl⟩
  · split <;> exact ⟨rfl, rfl, rfl, rfl, rfl, rfl⟩
theorem Sim.noted (h : Sim k r bl) (a : RAct) (ha : a.to ≠ [] → a.file < bl.length) (hn : (rnums (rdone r.dir a)).Nodup) (u : Int) (hu : u = (rsum r.files (rnums (rdone r.dir a)) : Int)) : Sim { k.noted (actOf bl a) with used := u } { r with acts := r.acts ++ [a], dir := rdone r.dir a } bl := by
  refine ⟨h.cap, h.down, h.left, h.len, h.nodup, h.file, does_sim h.dir ha, h.safe, ?_, ?_, ?_, ?_, hu⟩
  · show k.acts ++ [actOf bl a] = (r.acts ++ [a]).map (actOf bl)
    rw [h.acts, List.map_append]; rfl
  · intro b hb
    rcases List.mem_append.1 hb with hb | hb
    · exact h.actLt b hb
    · simp at hb; subst hb; exact ha
  · show rdone r.dir a = (r.acts ++ [a]).foldl rdone r.safe
    rw [List.foldl_append, ← h.hist]; rfl
  · intro j
    show (rnums (((r.acts ++ [a]).take j).foldl rdone r.safe)).Nodup
    rcases Nat.lt_or_ge r.acts.length j with hj | hj
    · rw [List.take_of_length_le (by simp; omega), List.foldl_append, ← h.hist]; exact hn
    · rw [List.take_append_of_le_length hj]; exact h.inj j
theorem Sim.dirNodup (h : Sim k r bl) : (rnums r.dir).Nodup := by
  have := h.inj r.acts.length
  rw [List.take_length, ← h.hist] at this
  exact this
theorem getD_inj {bl : List Nat} (h : bl.Nodup) {i j : Nat} (hi : i < bl.length) (hj : j < bl.length) (e : bl.getD i 0 = bl.getD j 0) : i = j := by
  rw [List.getD_eq_getElem?_getD, List.getD_eq_getElem?_getD, List.getElem?_eq_getElem hi, List.getElem?_eq_getElem hj] at e
  refine (List.getElem?_inj hi h).1 ?_
  rw [List.getElem?_eq_getElem hi, List.getElem?_eq_getElem hj]
  exact congrArg some (by simpa using e)
theorem Sim.num (h : Sim k r bl) {s : List UInt8} {i : Nat} (hi : rfind r.dir s = some i) : i < bl.length ∧ k.name s = bl.getD i 0 ∧ r.num s = i ∧ i ∈ rnums r.dir := by
  have hm : i ∈ rnums r.dir := List.mem_map.2 ⟨_, rfind_mem hi, rfl⟩
  refine ⟨h.dir.lt i hm, ?_, ?_, hm⟩
  · unfold Dk.name; rw [h.dir.at_, hi]; rfl
  · unfold RD.num; rw [hi]; rfl
theorem Sim.got (h : Sim k r bl) {i : Nat} (hi : i < bl.length) : k.got (bl.getD i 0) = r.got i ∧ r.files[i]? = some (r.got i) := by
  have hl : i < r.files.length := by rw [h.len]; exact hi
  have e : r.files[i]? = some (r.got i) := by unfold RD.got; rw [List.getD_eq_getElem?_getD, List.getElem?_eq_getElem hl]; rfl
  refine ⟨?_, e⟩
  unfold Dk.got
  rw [h.file i _ e]; rfl
theorem rsize_got (r : RD) (i : Nat) : rsize r.files i = (r.got i).data.length := rfl
theorem Sim.setFile (h : Sim k r bl) {i : Nat} (hi : i < bl.length) (x : File) (u : Int) (hu : u = (rsum (r.files.set i x) (rnums r.dir) : Int)) (m : Nat) : Sim { k.upd (bl.getD i 0) x with used := u, room := m } { r with files := r.files.set i x } bl := by
  refine ⟨h.cap, h.down, h.left, by simpa using h.len, h.nodup, ?_, h.dir, h.safe, h.acts, h.actLt, h.hist, h.inj, hu⟩
  intro j y hj
  show (if bl.getD j 0 = bl.getD i 0 then some x else k.file (bl.getD j 0)) = some y
  have hj' : (r.files.set i x)[j]? = some y := hj
  have hjl : j < bl.length := by
    rcases Nat.lt_or_ge j bl.length with h' | h'
    · exact h'
    · rw [List.getElem?_eq_none (by simp; rw [h.len]; exact h')] at hj'; cases hj'
  by_cases e : j = i
  · subst e
    rw [if_pos rfl]
    rw [List.getElem?_set_self (by rw [h.len]; exact hi)] at hj'
    exact hj'
  · rw [if_neg (fun e' => e (getD_inj h.nodup hjl hi e'))]
    rw [List.getElem?_set_ne (Ne.symm e)] at hj'
    exact h.file j y hj'
theorem rsum_set_out {F : List File} {i : Nat} {x : File} {l : List Nat} (h : i ∉ l) : rsum (F.set i x) l = rsum F l := by
  unfold rsum
  congr 1
  apply List.map_congr_left
  intro j hj
  unfold rsize
  rw [List.getD_eq_getElem?_getD, List.getD_eq_getElem?_getD, List.getElem?_set_ne (fun e => h (by rw [e]; exact hj))]
theorem rsize_set {F : List File} {i : Nat} {x : File} (h : i < F.length) : rsize (F.set i x) i = x.data.length := by
  unfold rsize
  rw [List.getD_eq_getElem?_getD, List.getElem?_set_self h]; rfl
theorem rsum_set {F : List File} {i : Nat} {x : File} {l : List Nat} (hl : l.Nodup) (hi : i ∈ l) (h : i < F.length) : rsum (F.set i x) l + rsize F i = rsum F l + x.data.length := by
  induction l with
  | nil => cases hi
  | cons j l ih =>
    rw [rsum_cons, rsum_cons]
    obtain ⟨h1, h2⟩ := List.nodup_cons.1 hl
    by_cases e : j = i
    · subst e
      rw [rsum_set_out h1, rsize_set h]; omega
    · have := ih h2 ((List.mem_cons.1 hi).resolve_left (fun e' => e e'.symm))
      have e2 : rsize (F.set i x) j = rsize F j := by
        unfold rsize
        rw [List.getD_eq_getElem?_getD, List.getD_eq_getElem?_getD, List.getElem?_set_ne (Ne.symm e)]
      omega
end
end Go.Proofs.Ytgclancneohpbaa
