/- The document's disk beside the program's: each thing that is done keeps them alike, with the same answer. The document's disk beside the program's: Crash. -/
import Derived.Test.YtabcdodjkfknlaaGreatDoorPN08
namespace Go.Proofs.YtabcdodjkfknlaaGreatDoor
def RD.may (r : RD) (ok : Bool) : Int := if r.down then 6 else if ok then 0 else 2
def RD.burns (r : RD) : Bool := !(r.left == 0)
def RD.burn (r : RD) : RD := if r.left = 0 then { r with down := true } else if 0 < r.left then { r with left := r.left - 1 } else r
def RD.used (r : RD) : Nat := rsum r.files (rnums r.dir)
def RD.act (r : RD) (a : RAct) : RD := { r.burn with acts := r.burn.acts ++ [a], dir := rdone r.burn.dir a }
def RD.findE (r : RD) (s : List UInt8) : Int := if r.may (dName s) = 0 then (if (rfind r.dir s).isSome then 0 else 4) else r.may (dName s)
def RD.num (r : RD) (s : List UInt8) : Nat := (rfind r.dir s).getD 0
def RD.got (r : RD) (i : Nat) : File := r.files.getD i ⟨[], 0⟩
def RD.createE (r : RD) (s : List UInt8) : Int := if r.findE s = 0 then 3 else if r.findE s = 4 then errDown r.burns else r.findE s
def RD.create (r : RD) (s : List UInt8) : RD := if r.findE s = 4 then (if r.burns then { r.act ⟨[], s, r.files.length⟩ with files := r.files ++ [⟨[], 0⟩] } else r.burn) else r
def RD.appE (r : RD) (s : List UInt8) (n : Nat) : Int := if r.findE s = 0 then (if r.cap < r.used + n then 5 else errDown r.burns) else r.findE s
def RD.append (r : RD) (s b : List UInt8) : RD := if r.findE s = 0 then (if r.cap < r.used + b.length then r else if r.burns then { r.burn with files := r.files.set (r.num s) ⟨(r.got (r.num s)).data ++ b, (r.got (r.num s)).safe⟩ } else r.burn) else r
def RD.readB (r : RD) (s : List UInt8) : List UInt8 := if r.findE s = 0 then (r.got (r.num s)).data else []
def RD.syncE (r : RD) (s : List UInt8) : Int := if r.findE s = 0 then errDown r.burns else r.findE s
def RD.sync (r : RD) (s : List UInt8) : RD := if r.findE s = 0 then (if r.burns then { r.burn with files := r.files.set (r.num s) ⟨(r.got (r.num s)).data, (r.got (r.num s)).data.length⟩ } else r.burn) else r
def RD.syncDirE (r : RD) : Int := if r.down then 6 else errDown r.burns
def RD.syncDir (r : RD) : RD := if r.down then r else if r.burns then { r.burn with safe := r.burn.dir, acts := [] } else r.burn
def RD.renameE (r : RD) (a b : List UInt8) : Int := if r.may (dName a && dName b) = 0 then (if r.findE a = 0 then errDown r.burns else r.findE a) else r.may (dName a && dName b)
def RD.rename (r : RD) (a b : List UInt8) : RD := if r.may (dName a && dName b) = 0 then (if r.findE a = 0 then (if r.burns then r.act ⟨a, b, r.num a⟩ else r.burn) else r) else r
def RD.removeE (r : RD) (a : List UInt8) : Int := if r.findE a = 0 then errDown r.burns else r.findE a
def RD.remove (r : RD) (a : List UInt8) : RD := if r.findE a = 0 then (if r.burns then r.act ⟨a, [], 0⟩ else r.burn) else r
def RD.fused (r : RD) (n : Int) : RD := { r with left := max n (-1) }
def RD.usedA (r : RD) : Int := if r.down then 0 else r.used
def RD.list (r : RD) : List (List UInt8) := if r.down then [] else r.dir.map Prod.fst
def rcutN (F : List File) (keep : List UInt8) (i : Nat) : Nat := (F.getD i ⟨[], 0⟩).safe + nextN keep ((F.getD i ⟨[], 0⟩).data.length - (F.getD i ⟨[], 0⟩).safe)
def rcut (F : List File) (keep : List UInt8) (i : Nat) : List File := F.set i ⟨(F.getD i ⟨[], 0⟩).data.take (rcutN F keep i), rcutN F keep i⟩
def rcuts (F : List File) (keep : List UInt8) : List Nat → List File
  | [] => F
  | i :: l => rcuts (rcut F keep i) keep.tail l
def RD.kept (r : RD) (keep : List UInt8) : RDir := (r.acts.take (nextN keep r.acts.length)).foldl rdone r.safe
def RD.crash (r : RD) (keep : List UInt8) : RD := ⟨r.cap, false, -1, rcuts r.files keep.tail (rnums (r.kept keep)), r.kept keep, r.kept keep, []⟩
def RD.new (cap : Int) : RD := ⟨(min (max cap 0) 16777216).toNat, false, -1, [], [], [], []⟩
theorem rset_mem {d : RDir} (h : RSorted d) {s : List UInt8} {f : Option Nat} {n : List UInt8 × Nat} (hn : n ∈ rset d s f) : n ∈ d ∨ (n.1 = s ∧ f = some n.2) := by
  cases f with
  | none =>
    have hn : n ∈ rput s 0 true d := hn
    rw [rput_true] at hn
    exact .inl (List.mem_filter.1 hn).1
  | some i =>
    have hn : n ∈ rput s i false d := hn
    rw [rput_false_eq h, List.mem_append, List.mem_cons] at hn
    rcases hn with h | rfl | h
    · exact .inl (rmem_lo h)
    · exact .inr ⟨rfl, rfl⟩
    · exact .inl (rmem_hi h)
/-- a directory is that one -/
structure DirSim (g : List UInt8 → Option Nat) (d : RDir) (bl : List Nat) : Prop where
  sorted : RSorted d
  lt : ∀ i ∈ rnums d, i < bl.length
  named : ∀ n ∈ d, n.1 ≠ []
  at_ : ∀ s, g s = (rfind d s).map fun i => bl.getD i 0
def actOf (bl : List Nat) (a : RAct) : DAct := ⟨⟨a.frm.toArray⟩, ⟨a.to.toArray⟩, if a.to = [] then none else some (bl.getD a.file 0)⟩
structure Sim (k : Dk) (r : RD) (bl : List Nat) : Prop where
  cap : k.cap = r.cap
  down : k.down = r.down
  left : k.fuse = r.left
  len : r.files.length = bl.length
  nodup : bl.Nodup
  file : ∀ i x, r.files[i]? = some x → k.file (bl.getD i 0) = some x
  dir : DirSim k.dir r.dir bl
  safe : DirSim k.safe r.safe bl
  acts : k.acts = r.acts.map (actOf bl)
  actLt : ∀ a ∈ r.acts, a.to ≠ [] → a.file < bl.length
  hist : r.dir = r.acts.foldl rdone r.safe
  inj : ∀ j, (rnums ((r.acts.take j).foldl rdone r.safe)).Nodup
  used : k.used = (r.used : Int)
theorem DirSim.grow {g : List UInt8 → Option Nat} {d : RDir} {bl : List Nat} (h : DirSim g d bl) (f : Nat) : DirSim g d (bl ++ [f]) :=
  ⟨h.sorted, fun i hi => by have := h.lt i hi; simp; omega, h.named, fun s => by
    rw [h.at_ s]
    cases hf : rfind d s with
    | none => rfl
    | some i =>
      have := h.lt i (List.mem_map.2 ⟨_, rfind_mem hf, rfl⟩)
      simp only [Option.map_some, List.getD_eq_getElem?_getD, List.getElem?_append_left this]⟩
theorem actOf_grow {bl : List Nat} {a : RAct} (h : a.to ≠ [] → a.file < bl.length) (f : Nat) : actOf (bl ++ [f]) a = actOf bl a := by
  unfold actOf
  by_cases e : a.to = []
  · rw [if_pos e, if_pos e]
  · rw [if_neg e, if_neg e]
    simp only [List.getD_eq_getElem?_getD, List.getElem?_append_left (h e)]
theorem isEmpty_of (l : List UInt8) : (⟨l.toArray⟩ : ByteArray).toList.isEmpty = l.isEmpty := by
  rw [Lib.toList_data]
theorem does_sim {g : List UInt8 → Option Nat} {d : RDir} {bl : List Nat} (h : DirSim g d bl) {a : RAct} (ha : a.to ≠ [] → a.file < bl.length) : DirSim ((actOf bl a).does g) (rdone d a) bl := by
  have h1 : DirSim (if a.frm.isEmpty then g else drop g a.frm) (if a.frm = [] then d else rset d a.frm none) bl := by
    by_cases e : a.frm = []
    · rw [if_pos e, e]; exact h
    · rw [if_neg e, if_neg (by simpa using e)]
      refine ⟨rset_sorted h.sorted _ _, fun i hi => ?_, fun n hn => ?_, fun s => ?_⟩
      · rcases rnums_set_mem h.sorted hi with e | e
        · cases e
        · exact h.lt i e
      · rcases rset_mem h.sorted hn with h' | ⟨_, h'⟩
        · exact h.named n h'
        · cases h'
      · rw [rfind_set h.sorted]
        unfold drop
        split
        · rfl
        · exact h.at_ s
  unfold rdone DAct.does actOf
  by_cases e : a.to = []
  · simp only [e, if_true, isEmpty_of]
    exact h1
  · simp only [e, if_false, isEmpty_of]
    refine ⟨rset_sorted h1.sorted _ _, fun i hi => ?_, fun n hn => ?_, fun s => ?_⟩
    · rcases rnums_set_mem h1.sorted hi with e' | e'
      · obtain rfl := Option.some.inj e'; exact ha e
      · exact h1.lt i e'
    · rcases rset_mem h1.sorted hn with h' | ⟨h', _⟩
      · exact h1.named n h'
      · rw [h']; exact e
    · rw [rfind_set h1.sorted]
      unfold lay
      split
      · rfl
      · exact h1.at_ s
theorem foldl_sim {bl : List Nat} (l : List RAct) (hl : ∀ a ∈ l, a.to ≠ [] → a.file < bl.length) {g : List UInt8 → Option Nat} {d : RDir} (h : DirSim g d bl) : DirSim ((l.map (actOf bl)).foldl (fun d a => a.does d) g) (l.foldl rdone d) bl := by
  induction l generalizing g d with
  | nil => exact h
  | cons a l ih => exact ih (fun b hb => hl b (List.mem_cons_of_mem _ hb)) (does_sim h (hl a List.mem_cons_self))
section
variable {k : Dk} {r : RD} {bl : List Nat}
theorem Sim.may (h : Sim k r bl) (b : Bool) : k.may b = r.may b := by unfold Dk.may RD.may; rw [h.down]
theorem Sim.burns (h : Sim k r bl) : k.burns = r.burns := by unfold Dk.burns RD.burns; rw [h.left]
theorem Sim.findE (h : Sim k r bl) (s : List UInt8) : k.findE s = r.findE s := by
  unfold Dk.findE RD.findE
  rw [h.may, h.dir.at_ s]
  cases rfind r.dir s <;> rfl
theorem Sim.used' (h : Sim k r bl) : k.used = (r.used : Int) := h.used
theorem Sim.burn (h : Sim k r bl) : Sim k.burn r.burn bl := by
  unfold Dk.burn RD.burn
  rw [h.left]
  split
  · exact ⟨h.cap, rfl, rfl, h.len, h.nodup, h.file, h.dir, h.safe, h.acts, h.actLt, h.hist, h.inj, h.used⟩
  · split
    · exact ⟨h.cap, h.down, rfl, h.len, h.nodup, h.file, h.dir, h.safe, h.acts, h.actLt, h.hist, h.inj, h.used⟩
    · exact h
theorem RD.burn_same (r : RD) : r.burn.cap = r.cap ∧ r.burn.files = r.files ∧ r.burn.dir = r.dir ∧ r.burn.safe = r.safe ∧ r.burn.acts = r.acts ∧ r.burn.used = r.used := by
  unfold RD.burn
  split
  · exact ⟨rfl, rfl, rfl, rfl, rfl, rfl⟩
  · split <;> exact ⟨rfl, rfl, rfl, rfl, rfl, rfl⟩
theorem Sim.noted (h : Sim k r bl) (a : RAct) (ha : a.to ≠ [] → a.file < bl.length) (hn : (rnums (rdone r.dir a)).Nodup) (u : Int) (hu : u = (rsum r.files (rnums (rdone r.dir a)) : Int)) : Sim { k.noted (actOf bl a) with used := u } { r with acts := r.acts ++ [a], dir := rdone r.dir a } bl := by
  refine ⟨h.cap, h.down, h.left, h.len, h.nodup, h.file, does_sim h.dir ha, h.safe, ?_, ?_, ?_, ?_, hu⟩
  · show k.acts ++ [actOf bl a] = (r.acts ++ [a]).map (actOf bl)
    rw [h.acts, List.map_append]; rfl
  · intro b hb
    rcases List.mem_append.1 hb with hb | hb
    · exact h.actLt b hb
    · simp at hb; subst hb; exact ha
  · show rdone r.dir a = (r.acts ++ [a]).foldl rdone r.safe
    rw [List.foldl_append, ← h.hist]; rfl
  · intro j
    show (rnums (((r.acts ++ [a]).take j).foldl rdone r.safe)).Nodup
    rcases Nat.lt_or_ge r.acts.length j with hj | hj
    · rw [List.take_of_length_le (by simp; omega), List.foldl_append, ← h.hist]; exact hn
    · rw [List.take_append_of_le_length hj]; exact h.inj j
theorem Sim.dirNodup (h : Sim k r bl) : (rnums r.dir).Nodup := by
  have := h.inj r.acts.length
  rw [List.take_length, ← h.hist] at this
  exact this
theorem getD_inj {bl : List Nat} (h : bl.Nodup) {i j : Nat} (hi : i < bl.length) (hj : j < bl.length) (e : bl.getD i 0 = bl.getD j 0) : i = j := by
  rw [List.getD_eq_getElem?_getD, List.getD_eq_getElem?_getD, List.getElem?_eq_getElem hi, List.getElem?_eq_getElem hj] at e
  refine (List.getElem?_inj hi h).1 ?_
  rw [List.getElem?_eq_getElem hi, List.getElem?_eq_getElem hj]
  exact congrArg some (by simpa using e)
theorem Sim.num (h : Sim k r bl) {s : List UInt8} {i : Nat} (hi : rfind r.dir s = some i) : i < bl.length ∧ k.name s = bl.getD i 0 ∧ r.num s = i ∧ i ∈ rnums r.dir := by
  have hm : i ∈ rnums r.dir := List.mem_map.2 ⟨_, rfind_mem hi, rfl⟩
  refine ⟨h.dir.lt i hm, ?_, ?_, hm⟩
  · unfold Dk.name; rw [h.dir.at_, hi]; rfl
  · unfold RD.num; rw [hi]; rfl
theorem Sim.got (h : Sim k r bl) {i : Nat} (hi : i < bl.length) : k.got (bl.getD i 0) = r.got i ∧ r.files[i]? = some (r.got i) := by
  have hl : i < r.files.length := by rw [h.len]; exact hi
  have e : r.files[i]? = some (r.got i) := by unfold RD.got; rw [List.getD_eq_getElem?_getD, List.getElem?_eq_getElem hl]; rfl
  refine ⟨?_, e⟩
  unfold Dk.got
  rw [h.file i _ e]; rfl
theorem rsize_got (r : RD) (i : Nat) : rsize r.files i = (r.got i).data.length := rfl
theorem Sim.setFile (h : Sim k r bl) {i : Nat} (hi : i < bl.length) (x : File) (u : Int) (hu : u = (rsum (r.files.set i x) (rnums r.dir) : Int)) (m : Nat) : Sim { k.upd (bl.getD i 0) x with used := u, room := m } { r with files := r.files.set i x } bl := by
  refine ⟨h.cap, h.down, h.left, by simpa using h.len, h.nodup, ?_, h.dir, h.safe, h.acts, h.actLt, h.hist, h.inj, hu⟩
  intro j y hj
  show (if bl.getD j 0 = bl.getD i 0 then some x else k.file (bl.getD j 0)) = some y
  have hj' : (r.files.set i x)[j]? = some y := hj
  have hjl : j < bl.length := by
    rcases Nat.lt_or_ge j bl.length with h' | h'
    · exact h'
    · rw [List.getElem?_eq_none (by simp; rw [h.len]; exact h')] at hj'; cases hj'
  by_cases e : j = i
  · subst e
    rw [if_pos rfl]
    rw [List.getElem?_set_self (by rw [h.len]; exact hi)] at hj'
    exact hj'
  · rw [if_neg (fun e' => e (getD_inj h.nodup hjl hi e'))]
    rw [List.getElem?_set_ne (Ne.symm e)] at hj'
    exact h.file j y hj'
theorem rsum_set_out {F : List File} {i : Nat} {x : File} {l : List Nat} (h : i ∉ l) : rsum (F.set i x) l = rsum F l := by
  unfold rsum
  congr 1
  apply List.map_congr_left
  intro j hj
  unfold rsize
  rw [List.getD_eq_getElem?_getD, List.getD_eq_getElem?_getD, List.getElem?_set_ne (fun e => h (by rw [e]; exact hj))]
theorem rsize_set {F : List File} {i : Nat} {x : File} (h : i < F.length) : rsize (F.set i x) i = x.data.length := by
  unfold rsize
  rw [List.getD_eq_getElem?_getD, List.getElem?_set_self h]; rfl
theorem rsum_set {F : List File} {i : Nat} {x : File} {l : List Nat} (hl : l.Nodup) (hi : i ∈ l) (h : i < F.length) : rsum (F.set i x) l + rsize F i = rsum F l + x.data.length := by
  induction l with
  | nil => cases hi
  | cons j l ih =>
    rw [rsum_cons, rsum_cons]
    obtain ⟨h1, h2⟩ := List.nodup_cons.1 hl
    by_cases e : j = i
    · subst e
      rw [rsum_set_out h1, rsize_set h]; omega
    · have := ih h2 ((List.mem_cons.1 hi).resolve_left (fun e' => e e'.symm))
      have e2 : rsize (F.set i x) j = rsize F j := by
        unfold rsize
        rw [List.getD_eq_getElem?_getD, List.getD_eq_getElem?_getD, List.getElem?_set_ne (Ne.symm e)]
      omega
end
end Go.Proofs.YtabcdodjkfknlaaGreatDoor
namespace Go.Proofs.YtabcdodjkfknlaaGreatDoor
section
variable {k : Dk} {r : RD} {bl : List Nat}
theorem toArr (s : ByteArray) : (⟨s.data.toList.toArray⟩ : ByteArray) = s := by simp
/-- files that no name stands for -/
theorem Sim.fresh (h : Sim k r bl) {f : Nat} (hf : k.file f = none) : f ∉ bl := by
  intro hm
  obtain ⟨i, hi, e⟩ := List.getElem_of_mem hm
  have hl : i < r.files.length := by rw [h.len]; exact hi
  have := h.file i _ (List.getElem?_eq_getElem hl)
  rw [List.getD_eq_getElem?_getD, List.getElem?_eq_getElem hi, e] at this
  simp [hf] at this
theorem getD_mem {bl : List Nat} {i : Nat} (h : i < bl.length) : bl.getD i 0 ∈ bl := by
  rw [List.getD_eq_getElem?_getD, List.getElem?_eq_getElem h]; exact List.getElem_mem h
theorem Sim.updFresh (h : Sim k r bl) {f : Nat} (hf : k.file f = none) (x : File) : Sim (k.upd f x) r bl := by
  refine ⟨h.cap, h.down, h.left, h.len, h.nodup, fun i y hy => ?_, h.dir, h.safe, h.acts, h.actLt, h.hist, h.inj, h.used⟩
  have hl : i < bl.length := by
    rw [← h.len]
    exact (List.getElem?_eq_some_iff.1 hy).1
  show (if bl.getD i 0 = f then some x else k.file (bl.getD i 0)) = some y
  rw [if_neg (fun e => h.fresh hf (by rw [← e]; exact getD_mem hl))]
  exact h.file i y hy
theorem rsum_app {F : List File} {x : File} {l : List Nat} (h : ∀ i ∈ l, i < F.length) : rsum (F ++ [x]) l = rsum F l := by
  unfold rsum
  congr 1
  apply List.map_congr_left
  intro j hj
  unfold rsize
  rw [List.getD_eq_getElem?_getD, List.getD_eq_getElem?_getD, List.getElem?_append_left (h j hj)]
theorem Sim.newFile (h : Sim k r bl) {f : Nat} (hf : k.file f = none) (x : File) : Sim (k.upd f x) { r with files := r.files ++ [x] } (bl ++ [f]) := by
  have hnd : (bl ++ [f]).Nodup := by
    rw [List.nodup_append]
    refine ⟨h.nodup, by simp, fun a ha b hb e => ?_⟩
    rw [List.mem_singleton] at hb
    rw [e, hb] at ha
    exact h.fresh hf ha
  have hu := h.updFresh hf x
  refine ⟨h.cap, h.down, h.left, by simp [h.len], hnd, fun i y hy => ?_, h.dir.grow f, h.safe.grow f, ?_, fun a ha ht => by have := h.actLt a ha ht; simp; omega, h.hist, h.inj, ?_⟩
  · replace hy : (r.files ++ [x])[i]? = some y := hy
    rcases Nat.lt_or_ge i bl.length with hi | hi
    · rw [List.getElem?_append_left (by rw [h.len]; exact hi)] at hy
      rw [List.getD_eq_getElem?_getD, List.getElem?_append_left hi, ← List.getD_eq_getElem?_getD]
      exact hu.file i y hy
    · rw [List.getElem?_append_right (by rw [h.len]; exact hi)] at hy
      have h0 : i - r.files.length = 0 := by
        have := (List.getElem?_eq_some_iff.1 hy).1
        simp at this; omega
      rw [h0] at hy
      have hi' : i = bl.length := by rw [h.len] at h0; omega
      subst hi'
      rw [List.getD_eq_getElem?_getD, List.getElem?_append_right (Nat.le_refl _), Nat.sub_self]
      show (if f = f then some x else _) = some y
      rw [if_pos rfl]; simpa using hy
  · show k.acts = _
    rw [h.acts]
    exact List.map_congr_left fun a ha => (actOf_grow (h.actLt a ha) f).symm
  · show k.used = ((rsum (r.files ++ [x]) (rnums r.dir) : Nat) : Int)
    rw [rsum_app (fun i hi => by rw [h.len]; exact h.dir.lt i hi)]
    exact h.used
theorem findE_zero {r : RD} {s : List UInt8} (h : r.findE s = 0) : r.down = false ∧ dName s = true ∧ ∃ i, rfind r.dir s = some i := by
  unfold RD.findE RD.may at h
  cases hd : r.down <;> cases hn : dName s <;> cases hf : rfind r.dir s <;> simp [hd, hn, hf] at h ⊢
theorem findE_four {r : RD} {s : List UInt8} (h : r.findE s = 4) : r.down = false ∧ dName s = true ∧ rfind r.dir s = none := by
  unfold RD.findE RD.may at h
  cases hd : r.down <;> cases hn : dName s <;> cases hf : rfind r.dir s <;> simp [hd, hn, hf] at h ⊢
theorem dName_nil {s : List UInt8} (h : dName s = true) : s ≠ [] := by
  rintro rfl; cases h
theorem Sim.createE (h : Sim k r bl) (s : List UInt8) : k.createE s = r.createE s := by unfold Dk.createE RD.createE; rw [h.findE, h.burns]
theorem Sim.create (h : Sim k r bl) {f : Nat} (hf : k.file f = none) (s : ByteArray) : ∃ bl', Sim (k.created f s) (r.create s.data.toList) bl' := by
  unfold Dk.created RD.create
  rw [h.findE, h.burns]
  split
  · rename_i h4
    obtain ⟨h1, h2, h3⟩ := findE_four h4
    have hne := dName_nil h2
    split
    · refine ⟨bl ++ [f], ?_⟩
      have hb := (h.newFile hf ⟨[], 0⟩).burn
      have hc : ({ r with files := r.files ++ [⟨[], 0⟩] } : RD).burn = { r.burn with files := r.files ++ [⟨[], 0⟩] } := by
        unfold RD.burn
        split
        · rfl
        · split <;> rfl
      have hfb : r.burn.files = r.files := (RD.burn_same r).2.1
      have hdb : r.burn.dir = r.dir := (RD.burn_same r).2.2.1
      rw [hc] at hb
      have hnot : r.files.length ∉ rnums (rlo r.dir s.data.toList) ++ rnums (rhi r.dir s.data.toList) := fun hm => by
        have h5 := rnums_all h.dir.sorted s.data.toList
        rw [h3] at h5
        have := h.dir.lt _ (h5.mem_iff.2 hm)
        rw [h.len] at this; omega
      have hperm := rnums_all h.dir.sorted s.data.toList
      rw [h3] at hperm
      have hr : rdone r.dir ⟨[], s.data.toList, r.files.length⟩ = rset r.dir s.data.toList (some r.files.length) := by
        unfold rdone; rw [if_neg hne, if_pos rfl]
      have hput := rnums_put h.dir.sorted s.data.toList r.files.length
      have := hb.noted ⟨[], s.data.toList, r.files.length⟩ (fun _ => by simp [h.len]) (by
        show (rnums (rdone r.burn.dir _)).Nodup
        rw [hdb, hr]
        exact hput.nodup_iff.2 (List.nodup_cons.2 ⟨hnot, hperm.nodup_iff.1 h.dirNodup⟩)) ((k.upd f ⟨[], 0⟩).burn.usedBy ⟨⟨#[]⟩, s, some f⟩) (by
        show _ = ((rsum (r.files ++ [⟨[], 0⟩]) (rnums (rdone r.burn.dir _)) : Nat) : Int)
        rw [hdb, hr, rsum_perm hput, rsum_cons]
        have e0 : rsize (r.files ++ [⟨[], 0⟩]) r.files.length = 0 := by
          unfold rsize; rw [List.getD_eq_getElem?_getD, List.getElem?_append_right (Nat.le_refl _), Nat.sub_self]; rfl
        have hd0 : (k.upd f ⟨[], 0⟩).burn.dir s.data.toList = none := by
          rw [show (k.upd f ⟨[], 0⟩).burn.dir = k.dir from (Go.Proofs.YtabcdodjkfknlaaGreatDoor.burn_same _).1, h.dir.at_, h3]; rfl
        have hub : (k.upd f ⟨[], 0⟩).burn.usedBy ⟨⟨#[]⟩, s, some f⟩ = k.used := by
          unfold Dk.usedBy
          rw [hd0]
          exact (Go.Proofs.YtabcdodjkfknlaaGreatDoor.burn_same _).2.2.2.2.2.1
        have e1 : rsum (r.files ++ [⟨[], 0⟩]) (rnums (rlo r.dir s.data.toList) ++ rnums (rhi r.dir s.data.toList)) = r.used := by
          unfold RD.used
          rw [rsum_app (fun i hi => by rw [h.len]; exact h.dir.lt _ (hperm.mem_iff.2 hi)), rsum_perm hperm]; rfl
        rw [hub, e0, e1, Nat.zero_add]
        exact h.used)
      have ea : actOf (bl ++ [f]) ⟨[], s.data.toList, r.files.length⟩ = ⟨⟨#[]⟩, s, some f⟩ := by
        unfold actOf
        rw [if_neg hne, h.len, List.getD_eq_getElem?_getD, List.getElem?_append_right (Nat.le_refl _), Nat.sub_self]
        rfl
      rw [ea] at this
      exact this
    · exact ⟨bl, (h.updFresh hf _).burn⟩
  · exact ⟨bl, h⟩
theorem Sim.fits (h : Sim k r bl) (n : Nat) : (k.cap - k.used < (n : Int)) ↔ r.cap < r.used + n := by
  rw [h.cap, h.used]; omega
theorem Sim.appE (h : Sim k r bl) (s : List UInt8) (n : Nat) : k.appE s n = r.appE s n := by
  unfold Dk.appE RD.appE
  rw [h.findE, h.burns]
  split
  · by_cases e : r.cap < r.used + n
    · rw [if_pos e, if_pos ((h.fits n).2 e)]
    · rw [if_neg e, if_neg (fun e' => e ((h.fits n).1 e'))]
  · rfl
theorem Sim.append (h : Sim k r bl) (s b : List UInt8) : Sim (k.apped s b) (r.append s b) bl := by
  unfold Dk.apped RD.append
  rw [h.findE, h.burns]
  split
  · rename_i h0
    obtain ⟨_, _, i, hi⟩ := findE_zero h0
    obtain ⟨n1, n2, n3, n4⟩ := h.num hi
    by_cases e : r.cap < r.used + b.length
    · rw [if_pos e, if_pos ((h.fits _).2 e)]; exact h
    · rw [if_neg e, if_neg (fun e' => e ((h.fits _).1 e'))]
      split
      · have hb := h.burn
        obtain ⟨s1, s2, s3, s4, s5, s6⟩ := RD.burn_same r
        obtain ⟨g1, g2⟩ := hb.got n1
        have hg : r.burn.got i = r.got i := by unfold RD.got; rw [s2]
        rw [hg] at g1 g2
        have hk : k.burn.used = k.used := (Go.Proofs.YtabcdodjkfknlaaGreatDoor.burn_same k).2.2.2.2.2.1
        have := hb.setFile n1 ⟨(r.got i).data ++ b, (r.got i).safe⟩ (k.used + b.length) (by
          rw [s2, s3]
          have := rsum_set (F := r.files) (x := ⟨(r.got i).data ++ b, (r.got i).safe⟩) h.dirNodup n4 (by rw [h.len]; exact n1)
          rw [rsize_got] at this
          simp only [List.length_append] at this
          have hu := h.used
          unfold RD.used at hu
          omega) (k.burn.room + 1)
        rw [s2] at this
        rw [n2, n3]
        unfold Dk.more
        rw [g1, hk]
        exact this
      · exact h.burn
  · exact h
theorem Sim.readB (h : Sim k r bl) (s : List UInt8) : k.readB s = r.readB s := by
  unfold Dk.readB RD.readB
  rw [h.findE]
  split
  · rename_i h0
    obtain ⟨_, _, i, hi⟩ := findE_zero h0
    obtain ⟨n1, n2, n3, n4⟩ := h.num hi
    rw [n2, n3, (h.got n1).1]
  · rfl
theorem Sim.syncE (h : Sim k r bl) (s : List UInt8) : k.syncE s = r.syncE s := by unfold Dk.syncE RD.syncE; rw [h.findE, h.burns]
theorem rsum_same {F : List File} {i : Nat} {x : File} {l : List Nat} (h : i < F.length) (hx : x.data.length = (F.getD i ⟨[], 0⟩).data.length) : rsum (F.set i x) l = rsum F l := by
  unfold rsum
  congr 1
  apply List.map_congr_left
  intro j _
  by_cases e : j = i
  · subst e; rw [rsize_set h, hx]; rfl
  · unfold rsize
    rw [List.getD_eq_getElem?_getD, List.getD_eq_getElem?_getD, List.getElem?_set_ne (Ne.symm e)]
theorem Sim.sync (h : Sim k r bl) (s : List UInt8) : Sim (k.synced s) (r.sync s) bl := by
  unfold Dk.synced RD.sync
  rw [h.findE, h.burns]
  split
  · rename_i h0
    obtain ⟨_, _, i, hi⟩ := findE_zero h0
    obtain ⟨n1, n2, n3, n4⟩ := h.num hi
    split
    · have hb := h.burn
      obtain ⟨s1, s2, s3, s4, s5, s6⟩ := RD.burn_same r
      have := hb.setFile n1 ⟨(r.got i).data, (r.got i).data.length⟩ k.burn.used (by
        have hu := hb.used
        unfold RD.used at hu
        have e := rsum_same (F := r.files) (x := ⟨(r.got i).data, (r.got i).data.length⟩) (l := rnums r.burn.dir) (i := i) (by rw [h.len]; exact n1) rfl
        rw [hu, s2, e]) k.burn.room
      rw [s2] at this
      rw [n2, n3, (h.got n1).1]
      exact this
    · exact h.burn
  · exact h
theorem Sim.syncDirE (h : Sim k r bl) : k.syncDirE = r.syncDirE := by unfold Dk.syncDirE RD.syncDirE; rw [h.down, h.burns]
theorem Sim.syncDir (h : Sim k r bl) : Sim k.syncedDir r.syncDir bl := by
  unfold Dk.syncedDir RD.syncDir
  rw [h.down, h.burns]
  split
  · exact h
  · have hb := h.burn
    split
    · exact ⟨hb.cap, hb.down, hb.left, hb.len, hb.nodup, hb.file, hb.dir, hb.dir, rfl, fun a ha => (by cases ha), rfl, fun j => by
        show (rnums ((([] : List RAct).take j).foldl rdone r.burn.dir)).Nodup
        rw [List.take_nil]; exact hb.dirNodup, hb.used⟩
    · exact hb
theorem Sim.fuse (h : Sim k r bl) (n : Int) : Sim (k.fused n) (r.fused n) bl :=
  ⟨h.cap, h.down, rfl, h.len, h.nodup, h.file, h.dir, h.safe, h.acts, h.actLt, h.hist, h.inj, h.used⟩
theorem Sim.usedA (h : Sim k r bl) : k.usedA = r.usedA := by unfold Dk.usedA RD.usedA; rw [h.down, h.used]
theorem Sim.names (h : Sim k r bl) {ns : List (List UInt8)} (hn : Names k.list ns) : ns = r.list := by
  unfold RD.list
  unfold Dk.list at hn
  rw [h.down] at hn
  cases hd : r.down
  · rw [hd] at hn
    exact hn.unique ⟨List.pairwise_map.2 h.dir.sorted, fun x => by
      show x ∈ r.dir.map Prod.fst ↔ (k.dir x).isSome = true
      rw [h.dir.at_]
      constructor
      · intro hx
        obtain ⟨n, hn, rfl⟩ := List.mem_map.1 hx
        rw [rmem_find h.dir.sorted hn]; rfl
      · intro hx
        cases hf : rfind r.dir x with
        | none => rw [hf] at hx; cases hx
        | some i => exact List.mem_map.2 ⟨_, rfind_mem hf, rfl⟩⟩
  · rw [hd] at hn
    exact hn.unique ⟨List.Pairwise.nil, fun x => by simp⟩
theorem Sim.renameE (h : Sim k r bl) (a b : List UInt8) : k.renameE a b = r.renameE a b := by
  unfold Dk.renameE RD.renameE; rw [h.may, h.findE, h.burns]
theorem Sim.removeE (h : Sim k r bl) (a : List UInt8) : k.removeE a = r.removeE a := by
  unfold Dk.removeE RD.removeE; rw [h.findE, h.burns]
/-- a file's name is taken -/
theorem Sim.gone (h : Sim k r bl) {a : List UInt8} {i : Nat} (hi : rfind r.dir a = some i) : i ∉ rnums (rset r.dir a none) ∧ (rnums (rset r.dir a none)).Nodup ∧ rsum r.files (rnums (rset r.dir a none)) + (r.got i).data.length = r.used := by
  have hp := rnums_all h.dir.sorted a
  rw [hi] at hp
  have hd := rnums_del h.dir.sorted a
  have hn := hp.nodup_iff.1 h.dirNodup
  obtain ⟨h1, h2⟩ := List.nodup_cons.1 hn
  refine ⟨fun hm => h1 (hd.mem_iff.1 hm), hd.nodup_iff.2 h2, ?_⟩
  rw [rsum_perm hd]
  unfold RD.used
  rw [rsum_perm hp, ← rsize_got]
  exact (Nat.add_comm _ _).trans (rsum_cons r.files i _).symm
theorem Sim.remove (h : Sim k r bl) (s : ByteArray) : Sim (k.removed s) (r.remove s.data.toList) bl := by
  unfold Dk.removed RD.remove
  rw [h.findE, h.burns]
  split
  · rename_i h0
    obtain ⟨_, hdn, i, hi⟩ := findE_zero h0
    obtain ⟨n1, n2, n3, n4⟩ := h.num hi
    split
    · have hb := h.burn
      obtain ⟨s1, s2, s3, s4, s5, s6⟩ := RD.burn_same r
      obtain ⟨g1, g2, g3⟩ := h.gone hi
      have hne := dName_nil hdn
      have hr : rdone r.dir ⟨s.data.toList, [], 0⟩ = rset r.dir s.data.toList none := by
        unfold rdone; rw [if_pos rfl, if_neg hne]
      have ea : actOf bl ⟨s.data.toList, [], 0⟩ = ⟨s, ⟨#[]⟩, none⟩ := rfl
      have hu : (k.did ⟨s, ⟨#[]⟩, none⟩).used = k.used := by
        show k.burn.usedBy ⟨s, ⟨#[]⟩, none⟩ = k.used
        unfold Dk.usedBy
        have : k.burn.dir (⟨#[]⟩ : ByteArray).data.toList = none := by
          rw [show k.burn.dir = k.dir from (Go.Proofs.YtabcdodjkfknlaaGreatDoor.burn_same _).1, h.dir.at_]
          cases hf : rfind r.dir (⟨#[]⟩ : ByteArray).data.toList with
          | none => rfl
          | some j => exact absurd rfl (h.dir.named _ (rfind_mem hf))
        rw [this]
        exact (Go.Proofs.YtabcdodjkfknlaaGreatDoor.burn_same _).2.2.2.2.2.1
      have := hb.noted ⟨s.data.toList, [], 0⟩ (fun e => absurd rfl e) (by rw [s3, hr]; exact g2) (k.used - (k.got (k.name s.data.toList)).data.length) (by
        rw [s2, s3, hr, n2, (h.got n1).1]
        have := h.used
        omega)
      rw [ea] at this
      unfold Dk.gone
      rw [hu]
      exact this
    · exact h.burn
  · exact h
theorem Sim.rename (h : Sim k r bl) (s t : ByteArray) : Sim (k.renamed s t) (r.rename s.data.toList t.data.toList) bl := by
  unfold Dk.renamed RD.rename
  rw [h.may, h.findE, h.burns]
  split
  · rename_i hm
    have hdt : dName t.data.toList = true := by
      unfold RD.may at hm
      cases hd : r.down <;> cases hs : dName s.data.toList <;> cases ht : dName t.data.toList <;> simp [hd, hs, ht] at hm ⊢
    split
    · rename_i h0
      obtain ⟨_, hdn, i, hi⟩ := findE_zero h0
      obtain ⟨n1, n2, n3, n4⟩ := h.num hi
      split
      · have hb := h.burn
        obtain ⟨s1, s2, s3, s4, s5, s6⟩ := RD.burn_same r
        obtain ⟨g1, g2, g3⟩ := h.gone hi
        have hne := dName_nil hdn
        have hnt := dName_nil hdt
        have hr : rdone r.dir ⟨s.data.toList, t.data.toList, i⟩ = rset (rset r.dir s.data.toList none) t.data.toList (some i) := by
          unfold rdone; rw [if_neg hnt, if_neg hne]
        have hs1 : RSorted (rset r.dir s.data.toList none) := rset_sorted h.dir.sorted _ _
        have hall := rnums_all hs1 t.data.toList
        have hput := rnums_put hs1 t.data.toList i
        have hft := rfind_set h.dir.sorted s.data.toList none t.data.toList
        have ea : actOf bl ⟨s.data.toList, t.data.toList, i⟩ = ⟨s, t, some (bl.getD i 0)⟩ := by
          unfold actOf; rw [if_neg hnt]
        have hlow : i ∉ rnums (rlo (rset r.dir s.data.toList none) t.data.toList) ++ rnums (rhi (rset r.dir s.data.toList none) t.data.toList) := fun hm => g1 (hall.mem_iff.2 (List.mem_append_right _ hm))
        have hnd : (rnums (rlo (rset r.dir s.data.toList none) t.data.toList) ++ rnums (rhi (rset r.dir s.data.toList none) t.data.toList)).Nodup := (List.nodup_append.1 (hall.nodup_iff.1 g2)).2.1
        have := hb.noted ⟨s.data.toList, t.data.toList, i⟩ (fun _ => n1) (by rw [s3, hr]; exact hput.nodup_iff.2 (List.nodup_cons.2 ⟨hlow, hnd⟩)) (k.burn.usedBy ⟨s, t, some (bl.getD i 0)⟩) (by
          rw [s2, s3, hr, rsum_perm hput, rsum_cons, rsize_got]
          rw [rsum_perm hall, rsum_append] at g3
          unfold Dk.usedBy
          rw [show k.burn.dir = k.dir from (Go.Proofs.YtabcdodjkfknlaaGreatDoor.burn_same _).1, h.dir.at_, show k.burn.used = k.used from (Go.Proofs.YtabcdodjkfknlaaGreatDoor.burn_same _).2.2.2.2.2.1, h.used]
          by_cases e : t.data.toList = s.data.toList
          · rw [if_pos e] at hft
            rw [hft] at g3
            rw [e, hi]
            simp only [Option.map_some, if_true]
            simp only [rsum, List.map_nil, List.sum_nil] at g3 ⊢
            rw [e] at g3
            omega
          · rw [if_neg e] at hft
            rw [hft] at g3
            cases hf : rfind r.dir t.data.toList with
            | none =>
              rw [hf] at g3
              simp only [Option.map_none]
              simp only [rsum, List.map_nil, List.sum_nil] at g3 ⊢
              omega
            | some j =>
              rw [hf] at g3
              have hj := h.num hf
              have hij : j ≠ i := fun e' => by
                subst e'
                refine g1 (List.mem_map.2 ⟨(t.data.toList, j), ?_, rfl⟩)
                exact rfind_mem (hft.trans hf)
              have hne2 : ¬ (some (bl.getD i 0) = some (bl.getD j 0)) := fun e' => hij (getD_inj h.nodup hj.1 n1 (Option.some.inj e').symm)
              simp only [Option.map_some]
              rw [if_neg hne2]
              have hsz : k.burn.size (bl.getD j 0) = rsize r.files j := by
                unfold Dk.size
                rw [show k.burn.file = k.file from (Go.Proofs.YtabcdodjkfknlaaGreatDoor.burn_same _).2.2.2.1, h.file j _ (h.got hj.1).2]; rfl
              rw [hsz]
              simp only [rsum, List.map_cons, List.map_nil, List.sum_cons, List.sum_nil] at g3 ⊢
              omega)
        rw [ea] at this
        rw [n2, n3]
        exact this
      · exact h.burn
    · exact h
  · exact h
end
end Go.Proofs.YtabcdodjkfknlaaGreatDoor
namespace Go.Proofs.YtabcdodjkfknlaaGreatDoor
theorem DirSim.names {g : List UInt8 → Option Nat} {d : RDir} {bl : List Nat} (h : DirSim g d bl) {ns : List (List UInt8)} (hn : Names g ns) : ns = d.map Prod.fst :=
  hn.unique ⟨List.pairwise_map.2 h.sorted, fun x => by
    rw [h.at_]
    constructor
    · intro hx
      obtain ⟨n, hn, rfl⟩ := List.mem_map.1 hx
      rw [rmem_find h.sorted hn]; rfl
    · intro hx
      cases hf : rfind d x with
      | none => rw [hf] at hx; cases hx
      | some i => exact List.mem_map.2 ⟨_, rfind_mem hf, rfl⟩⟩
theorem rcut_length (F : List File) (keep : List UInt8) (i : Nat) : (rcut F keep i).length = F.length := by unfold rcut; simp
theorem rcuts_length (F : List File) (keep : List UInt8) (l : List Nat) : (rcuts F keep l).length = F.length := by
  induction l generalizing F keep with
  | nil => rfl
  | cons i l ih => exact (ih (rcut F keep i) keep.tail).trans (rcut_length F keep i)
theorem rcuts_out {F : List File} {keep : List UInt8} {l : List Nat} {i : Nat} (h : i ∉ l) : (rcuts F keep l).getD i ⟨[], 0⟩ = F.getD i ⟨[], 0⟩ := by
  induction l generalizing F keep with
  | nil => rfl
  | cons j l ih =>
    have hi : i ≠ j := fun e => h (by rw [e]; exact List.mem_cons_self)
    refine (ih (F := rcut F keep j) (keep := keep.tail) fun hm => h (List.mem_cons_of_mem _ hm)).trans ?_
    unfold rcut
    rw [List.getD_eq_getElem?_getD, List.getElem?_set_ne (Ne.symm hi), List.getD_eq_getElem?_getD]
theorem rcutN_le {F : List File} {keep : List UInt8} {i : Nat} (h : (F.getD i ⟨[], 0⟩).safe ≤ (F.getD i ⟨[], 0⟩).data.length) : rcutN F keep i ≤ (F.getD i ⟨[], 0⟩).data.length := by
  unfold rcutN
  have := nextN_le keep ((F.getD i ⟨[], 0⟩).data.length - (F.getD i ⟨[], 0⟩).safe)
  omega
theorem rcut_at {F : List File} {keep : List UInt8} {i : Nat} (h : i < F.length) : (rcut F keep i).getD i ⟨[], 0⟩ = ⟨(F.getD i ⟨[], 0⟩).data.take (rcutN F keep i), rcutN F keep i⟩ := by
  unfold rcut
  rw [List.getD_eq_getElem?_getD, List.getElem?_set_self h]; rfl
theorem rcut_ne {F : List File} {keep : List UInt8} {i j : Nat} (h : j ≠ i) : (rcut F keep i).getD j ⟨[], 0⟩ = F.getD j ⟨[], 0⟩ := by
  unfold rcut
  rw [List.getD_eq_getElem?_getD, List.getElem?_set_ne (Ne.symm h), List.getD_eq_getElem?_getD]
/-- files alike -/
structure FSim (k : Dk) (F : List File) (bl : List Nat) : Prop where
  len : F.length = bl.length
  nodup : bl.Nodup
  file : ∀ i x, F[i]? = some x → k.file (bl.getD i 0) = some x
  safe : ∀ i, (F.getD i ⟨[], 0⟩).safe ≤ (F.getD i ⟨[], 0⟩).data.length
theorem FSim.got {k : Dk} {F : List File} {bl : List Nat} (h : FSim k F bl) {i : Nat} (hi : i < bl.length) : k.got (bl.getD i 0) = F.getD i ⟨[], 0⟩ := by
  have hl : i < F.length := by rw [h.len]; exact hi
  have e : F[i]? = some (F.getD i ⟨[], 0⟩) := by rw [List.getD_eq_getElem?_getD, List.getElem?_eq_getElem hl]; rfl
  unfold Dk.got
  rw [h.file i _ e]; rfl
theorem FSim.cut {k : Dk} {F : List File} {bl : List Nat} (h : FSim k F bl) {i : Nat} (hi : i < bl.length) {s : List UInt8} (hs : k.safe s = some (bl.getD i 0)) (keep : List UInt8) : FSim (k.cut keep s) (rcut F keep i) bl ∧ (k.cut keep s).used = k.used + (rcutN F keep i : Int) := by
  have h0 : (k.safe s).getD 0 = bl.getD i 0 := by rw [hs]; rfl
  have hlen : i < F.length := by rw [h.len]; exact hi
  have hF : (k.cut keep s).file = fun j => if j = bl.getD i 0 then some ⟨(F.getD i ⟨[], 0⟩).data.take (rcutN F keep i), rcutN F keep i⟩ else k.file j := by
    show (k.upd ((k.safe s).getD 0) _).file = _
    rw [h0, h.got hi]; rfl
  refine ⟨⟨(rcut_length F keep i).trans h.len, h.nodup, fun j x hx => ?_, fun j => ?_⟩, ?_⟩
  · rw [hF]
    show (if bl.getD j 0 = bl.getD i 0 then _ else k.file (bl.getD j 0)) = some x
    have hj : j < bl.length := by
      have := (List.getElem?_eq_some_iff.1 hx).1
      rw [rcut_length, h.len] at this; exact this
    by_cases e : j = i
    · subst e
      rw [if_pos rfl]
      unfold rcut at hx
      rw [List.getElem?_set_self hlen] at hx
      exact hx
    · rw [if_neg (fun e' => e (getD_inj h.nodup hj hi e'))]
      unfold rcut at hx
      rw [List.getElem?_set_ne (Ne.symm e)] at hx
      exact h.file j x hx
  · by_cases e : j = i
    · subst e
      rw [rcut_at hlen]
      have := rcutN_le (keep := keep) (h.safe j)
      show rcutN F keep j ≤ (List.take _ _).length
      rw [List.length_take]; omega
    · rw [rcut_ne e]; exact h.safe j
  · show k.used + _ = _
    rw [h0, h.got hi]; rfl
theorem FSim.cuts {bl : List Nat} : ∀ (d : RDir) {k : Dk} {F : List File} (keep : List UInt8), FSim k F bl → (∀ n ∈ d, n.2 < bl.length ∧ k.safe n.1 = some (bl.getD n.2 0)) → (rnums d).Nodup →
    FSim (k.cuts keep (d.map Prod.fst)) (rcuts F keep (rnums d)) bl ∧ (k.cuts keep (d.map Prod.fst)).used = k.used + (rsum (rcuts F keep (rnums d)) (rnums d) : Int)
  | [], k, F, keep, h, _, _ => ⟨h, by show k.used = k.used + ((0 : Nat) : Int); simp⟩
  | n :: d, k, F, keep, h, hd, hn => by
    obtain ⟨h1, h2⟩ := hd n List.mem_cons_self
    obtain ⟨c1, c2⟩ := h.cut h1 h2 keep
    obtain ⟨n1, n2⟩ := List.nodup_cons.1 hn
    replace n1 : n.2 ∉ rnums d := n1
    obtain ⟨i1, i2⟩ := FSim.cuts d keep.tail c1 (fun m hm => hd m (List.mem_cons_of_mem _ hm)) n2
    refine ⟨i1, i2.trans ?_⟩
    rw [c2]
    show _ = k.used + ((rsum (rcuts (rcut F keep n.2) keep.tail (rnums d)) (n.2 :: rnums d) : Nat) : Int)
    rw [rsum_cons]
    have e : rsize (rcuts (rcut F keep n.2) keep.tail (rnums d)) n.2 = rcutN F keep n.2 := by
      unfold rsize
      rw [rcuts_out n1, rcut_at (by rw [h.len]; exact h1)]
      have := rcutN_le (keep := keep) (h.safe n.2)
      show (List.take _ _).length = _
      rw [List.length_take]; omega
    rw [e]; omega
theorem Sim.crash {k : Dk} {r : RD} {bl : List Nat} (h : Sim k r bl) (hsf : ∀ f x, k.file f = some x → x.safe ≤ x.data.length) {keep : List UInt8} {ns : List (List UInt8)} (hn : Names (k.kept keep).safe ns) : Sim (k.crashed keep ns) (r.crash keep) bl := by
  have hlen : k.acts.length = r.acts.length := by rw [h.acts, List.length_map]
  have hK : (k.kept keep).safe = ((r.acts.take (nextN keep r.acts.length)).map (actOf bl)).foldl (fun d a => a.does d) k.safe := by
    show (k.acts.take (nextN keep k.acts.length)).foldl (fun d a => a.does d) k.safe = _
    rw [hlen, h.acts, List.map_take]
  have hD : DirSim (k.kept keep).safe (r.kept keep) bl := by
    rw [hK]
    exact foldl_sim _ (fun a ha => h.actLt a (List.mem_of_mem_take ha)) h.safe
  obtain rfl := hD.names hn
  have hF : FSim (k.kept keep) r.files bl := ⟨h.len, h.nodup, h.file, fun i => by
    rw [List.getD_eq_getElem?_getD]
    cases hx : r.files[i]? with
    | none => exact Nat.le_refl _
    | some x => exact hsf _ x (h.file i x hx)⟩
  obtain ⟨c1, c2⟩ := FSim.cuts (r.kept keep) keep.tail hF (fun n hn => ⟨hD.lt _ (List.mem_map.2 ⟨n, hn, rfl⟩), by rw [hD.at_, rmem_find hD.sorted hn]; rfl⟩) (h.inj _)
  have hs := Dk.cuts_same (k.kept keep) keep.tail ((r.kept keep).map Prod.fst)
  refine ⟨hs.2.2.2.1.trans h.cap, rfl, rfl, c1.len, h.nodup, c1.file, ?_, ?_, rfl, fun a ha => (by cases ha), rfl, fun j => ?_, ?_⟩
  · show DirSim ((k.kept keep).cuts keep.tail _).safe _ bl
    rw [hs.2.1]; exact hD
  · show DirSim ((k.kept keep).cuts keep.tail _).safe _ bl
    rw [hs.2.1]; exact hD
  · show (rnums ((([] : List RAct).take j).foldl rdone (r.kept keep))).Nodup
    rw [List.take_nil]; exact h.inj _
  · show ((k.kept keep).cuts keep.tail _).used = _
    rw [c2]
    show (0 : Int) + _ = _
    rw [Int.zero_add]; rfl
theorem Sim.new (cap : Int) : Sim (Dk.new cap) (RD.new cap) [] :=
  ⟨rfl, rfl, rfl, rfl, List.nodup_nil, fun i x h => (by simp [RD.new] at h), ⟨List.Pairwise.nil, fun i h => (by cases h), fun n h => (by cases h), fun _ => rfl⟩, ⟨List.Pairwise.nil, fun i h => (by cases h), fun n h => (by cases h), fun _ => rfl⟩, rfl, fun a h => (by cases h), rfl, fun j => by
    show (rnums ((([] : List RAct).take j).foldl rdone [])).Nodup
    rw [List.take_nil]; exact List.nodup_nil, rfl⟩
end Go.Proofs.YtabcdodjkfknlaaGreatDoor
