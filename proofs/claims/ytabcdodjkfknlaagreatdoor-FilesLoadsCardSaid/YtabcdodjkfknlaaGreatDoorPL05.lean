/- The document's disk beside the program's: each thing that is done keeps them alike, with the same answer. The document's disk beside the program's: Crash. A disk that is up: what each name has, behind each thing that is done. No program in sight. -/
import Derived.Test.YtabcdodjkfknlaaGreatDoorPL04
namespace Go.Proofs.YtabcdodjkfknlaaGreatDoor
def RD.may (r : RD) (ok : Bool) : Int := if r.down then 6 else if ok then 0 else 2
def RD.burns (r : RD) : Bool := !(r.left == 0)
def RD.burn (r : RD) : RD := if r.left = 0 then { r with down := true } else if 0 < r.left then { r with left := r.left - 1 } else r
def RD.used (r : RD) : Nat := rsum r.files (rnums r.dir)
def RD.act (r : RD) (a : RAct) : RD := { r.burn with acts := r.burn.acts ++ [a], dir := rdone r.burn.dir a }
def RD.findE (r : RD) (s : List UInt8) : Int := if r.may (dName s) = 0 then (if (rfind r.dir s).isSome then 0 else 4) else r.may (dName s)
def RD.num (r : RD) (s : List UInt8) : Nat := (rfind r.dir s).getD 0
def RD.got (r : RD) (i : Nat) : File := r.files.getD i ⟨[], 0⟩
def RD.createE (r : RD) (s : List UInt8) : Int := if r.findE s = 0 then 3 else if r.findE s = 4 then errDown r.burns else r.findE s
def RD.create (r : RD) (s : List UInt8) : RD := if r.findE s = 4 then (if r.burns then { r.act ⟨[], s, r.files.length⟩ with files := r.files ++ [⟨[], 0⟩] } else r.burn) else r
def RD.appE (r : RD) (s : List UInt8) (n : Nat) : Int := if r.findE s = 0 then (if r.cap < r.used + n then 5 else errDown r.burns) else r.findE s
def RD.append (r : RD) (s b : List UInt8) : RD := if r.findE s = 0 then (if r.cap < r.used + b.length then r else if r.burns then { r.burn with files := r.files.set (r.num s) ⟨(r.got (r.num s)).data ++ b, (r.got (r.num s)).safe⟩ } else r.burn) else r
def RD.readB (r : RD) (s : List UInt8) : List UInt8 := if r.findE s = 0 then (r.got (r.num s)).data else []
def RD.syncE (r : RD) (s : List UInt8) : Int := if r.findE s = 0 then errDown r.burns else r.findE s
def RD.sync (r : RD) (s : List UInt8) : RD := if r.findE s = 0 then (if r.burns then { r.burn with files := r.files.set (r.num s) ⟨(r.got (r.num s)).data, (r.got (r.num s)).data.length⟩ } else r.burn) else r
def RD.syncDirE (r : RD) : Int := if r.down then 6 else errDown r.burns
def RD.syncDir (r : RD) : RD := if r.down then r else if r.burns then { r.burn with safe := r.burn.dir, acts := [] } else r.burn
def RD.renameE (r : RD) (a b : List UInt8) : Int := if r.may (dName a && dName b) = 0 then (if r.findE a = 0 then errDown r.burns else r.findE a) else r.may (dName a && dName b)
def RD.rename (r : RD) (a b : List UInt8) : RD := if r.may (dName a && dName b) = 0 then (if r.findE a = 0 then (if r.burns then r.act ⟨a, b, r.num a⟩ else r.burn) else r) else r
def RD.removeE (r : RD) (a : List UInt8) : Int := if r.findE a = 0 then errDown r.burns else r.findE a
def RD.remove (r : RD) (a : List UInt8) : RD := if r.findE a = 0 then (if r.burns then r.act ⟨a, [], 0⟩ else r.burn) else r
def RD.fused (r : RD) (n : Int) : RD := { r with left := max n (-1) }
def RD.usedA (r : RD) : Int := if r.down then 0 else r.used
def RD.list (r : RD) : List (List UInt8) := if r.down then [] else r.dir.map Prod.fst
def rcutN (F : List File) (keep : List UInt8) (i : Nat) : Nat := (F.getD i ⟨[], 0⟩).safe + nextN keep ((F.getD i ⟨[], 0⟩).data.length - (F.getD i ⟨[], 0⟩).safe)
def rcut (F : List File) (keep : List UInt8) (i : Nat) : List File := F.set i ⟨(F.getD i ⟨[], 0⟩).data.take (rcutN F keep i), rcutN F keep i⟩
def rcuts (F : List File) (keep : List UInt8) : List Nat → List File
  | [] => F
  | i :: l => rcuts (rcut F keep i) keep.tail l
def RD.kept (r : RD) (keep : List UInt8) : RDir := (r.acts.take (nextN keep r.acts.length)).foldl rdone r.safe
def RD.crash (r : RD) (keep : List UInt8) : RD := ⟨r.cap, false, -1, rcuts r.files keep.tail (rnums (r.kept keep)), r.kept keep, r.kept keep, []⟩
def RD.new (cap : Int) : RD := ⟨(min (max cap 0) 16777216).toNat, false, -1, [], [], [], []⟩
theorem rset_mem {d : RDir} (h : RSorted d) {s : List UInt8} {f : Option Nat} {n : List UInt8 × Nat} (hn : n ∈ rset d s f) : n ∈ d ∨ (n.1 = s ∧ f = some n.2) := by
  cases f with
  | none =>
    have hn : n ∈ rput s 0 true d := hn
    rw [rput_true] at hn
    exact .inl (List.mem_filter.1 hn).1
  | some i =>
    have hn : n ∈ rput s i false d := hn
    rw [rput_false_eq h, List.mem_append, List.mem_cons] at hn
    rcases hn with h | rfl | h
    · exact .inl (rmem_lo h)
    · exact .inr ⟨rfl, rfl⟩
    · exact .inl (rmem_hi h)
/-- a directory is that one -/
structure DirSim (g : List UInt8 → Option Nat) (d : RDir) (bl : List Nat) : Prop where
  sorted : RSorted d
  lt : ∀ i ∈ rnums d, i < bl.length
  named : ∀ n ∈ d, n.1 ≠ []
  at_ : ∀ s, g s = (rfind d s).map fun i => bl.getD i 0
def actOf (bl : List Nat) (a : RAct) : DAct := ⟨⟨a.frm.toArray⟩, ⟨a.to.toArray⟩, if a.to = [] then none else some (bl.getD a.file 0)⟩
structure Sim (k : Dk) (r : RD) (bl : List Nat) : Prop where
  cap : k.cap = r.cap
  down : k.down = r.down
  left : k.fuse = r.left
  len : r.files.length = bl.length
  nodup : bl.Nodup
  file : ∀ i x, r.files[i]? = some x → k.file (bl.getD i 0) = some x
  dir : DirSim k.dir r.dir bl
  safe : DirSim k.safe r.safe bl
  acts : k.acts = r.acts.map (actOf bl)
  actLt : ∀ a ∈ r.acts, a.to ≠ [] → a.file < bl.length
  hist : r.dir = r.acts.foldl rdone r.safe
  inj : ∀ j, (rnums ((r.acts.take j).foldl rdone r.safe)).Nodup
  used : k.used = (r.used : Int)
theorem DirSim.grow {g : List UInt8 → Option Nat} {d : RDir} {bl : List Nat} (h : DirSim g d bl) (f : Nat) : DirSim g d (bl ++ [f]) :=
  ⟨h.sorted, fun i hi => by have := h.lt i hi; simp; omega, h.named, fun s => by
    rw [h.at_ s]
    cases hf : rfind d s with
    | none => rfl
    | some i =>
      have := h.lt i (List.mem_map.2 ⟨_, rfind_mem hf, rfl⟩)
      simp only [Option.map_some, List.getD_eq_getElem?_getD, List.getElem?_append_left this]⟩
theorem actOf_grow {bl : List Nat} {a : RAct} (h : a.to ≠ [] → a.file < bl.length) (f : Nat) : actOf (bl ++ [f]) a = actOf bl a := by
  unfold actOf
  by_cases e : a.to = []
  · rw [if_pos e, if_pos e]
  · rw [if_neg e, if_neg e]
    simp only [List.getD_eq_getElem?_getD, List.getElem?_append_left (h e)]
theorem isEmpty_of (l : List UInt8) : (⟨l.toArray⟩ : ByteArray).toList.isEmpty = l.isEmpty := by
  rw [Lib.toList_data]
theorem does_sim {g : List UInt8 → Option Nat} {d : RDir} {bl : List Nat} (h : DirSim g d bl) {a : RAct} (ha : a.to ≠ [] → a.file < bl.length) : DirSim ((actOf bl a).does g) (rdone d a) bl := by
  have h1 : DirSim (if a.frm.isEmpty then g else drop g a.frm) (if a.frm = [] then d else rset d a.frm none) bl := by
    by_cases e : a.frm = []
    · rw [if_pos e, e]; exact h
    · rw [if_neg e, if_neg (by simpa using e)]
      refine ⟨rset_sorted h.sorted _ _, fun i hi => ?_, fun n hn => ?_, fun s => ?_⟩
      · rcases rnums_set_mem h.sorted hi with e | e
        · cases e
        · exact h.lt i e
      · rcases rset_mem h.sorted hn with h' | ⟨_, h'⟩
        · exact h.named n h'
        · cases h'
      · rw [rfind_set h.sorted]
        unfold drop
        split
        · rfl
        · exact h.at_ s
  unfold rdone DAct.does actOf
  by_cases e : a.to = []
  · simp only [e, if_true, isEmpty_of]
    exact h1
  · simp only [e, if_false, isEmpty_of]
    refine ⟨rset_sorted h1.sorted _ _, fun i hi => ?_, fun n hn => ?_, fun s => ?_⟩
    · rcases rnums_set_mem h1.sorted hi with e' | e'
      · obtain rfl := Option.some.inj e'; exact ha e
      · exact h1.lt i e'
    · rcases rset_mem h1.sorted hn with h' | ⟨h', _⟩
      · exact h1.named n h'
      · rw [h']; exact e
    · rw [rfind_set h1.sorted]
      unfold lay
      split
      · rfl
      · exact h1.at_ s
section
variable {k : Dk} {r : RD} {bl : List Nat}
theorem Sim.may (h : Sim k r bl) (b : Bool) : k.may b = r.may b := by unfold Dk.may RD.may; rw [h.down]
theorem Sim.burns (h : Sim k r bl) : k.burns = r.burns := by unfold Dk.burns RD.burns; rw [h.left]
theorem Sim.findE (h : Sim k r bl) (s : List UInt8) : k.findE s = r.findE s := by
  unfold Dk.findE RD.findE
  rw [h.may, h.dir.at_ s]
  cases rfind r.dir s <;> rfl
theorem Sim.burn (h : Sim k r bl) : Sim k.burn r.burn bl := by
  unfold Dk.burn RD.burn
  rw [h.left]
  split
  · exact ⟨h.cap, rfl, rfl, h.len, h.nodup, h.file, h.dir, h.safe, h.acts, h.actLt, h.hist, h.inj, h.used⟩
  · split
    · exact ⟨h.cap, h.down, rfl, h.len, h.nodup, h.file, h.dir, h.safe, h.acts, h.actLt, h.hist, h.inj, h.used⟩
    · exact h
theorem RD.burn_same (r : RD) : r.burn.cap = r.cap ∧ r.burn.files = r.files ∧ r.burn.dir = r.dir ∧ r.burn.safe = r.safe ∧ r.burn.acts = r.acts ∧ r.burn.used = r.used := by
  unfold RD.burn
  split
  · exact ⟨rfl, rfl, rfl, rfl, rfl, rfl⟩
  · split <;> exact ⟨rfl, rfl, rfl, rfl, rfl, rfl⟩
theorem Sim.noted (h : Sim k r bl) (a : RAct) (ha : a.to ≠ [] → a.file < bl.length) (hn : (rnums (rdone r.dir a)).Nodup) (u : Int) (hu : u = (rsum r.files (rnums (rdone r.dir a)) : Int)) : Sim { k.noted (actOf bl a) with used := u } { r with acts := r.acts ++ [a], dir := rdone r.dir a } bl := by
  refine ⟨h.cap, h.down, h.left, h.len, h.nodup, h.file, does_sim h.dir ha, h.safe, ?_, ?_, ?_, ?_, hu⟩
  · show k.acts ++ [actOf bl a] = (r.acts ++ [a]).map (actOf bl)
    rw [h.acts, List.map_append]; rfl
  · intro b hb
    rcases List.mem_append.1 hb with hb | hb
    · exact h.actLt b hb
    · simp at hb; subst hb; exact ha
  · show rdone r.dir a = (r.acts ++ [a]).foldl rdone r.safe
    rw [List.foldl_append, ← h.hist]; rfl
  · intro j
    show (rnums (((r.acts ++ [a]).take j).foldl rdone r.safe)).Nodup
    rcases Nat.lt_or_ge r.acts.length j with hj | hj
    · rw [List.take_of_length_le (by simp; omega), List.foldl_append, ← h.hist]; exact hn
    · rw [List.take_append_of_le_length hj]; exact h.inj j
theorem Sim.dirNodup (h : Sim k r bl) : (rnums r.dir).Nodup := by
  have := h.inj r.acts.length
  rw [List.take_length, ← h.hist] at this
  exact this
theorem getD_inj {bl : List Nat} (h : bl.Nodup) {i j : Nat} (hi : i < bl.length) (hj : j < bl.length) (e : bl.getD i 0 = bl.getD j 0) : i = j := by
  rw [List.getD_eq_getElem?_getD, List.getD_eq_getElem?_getD, List.getElem?_eq_getElem hi, List.getElem?_eq_getElem hj] at e
  refine (List.getElem?_inj hi h).1 ?_
  rw [List.getElem?_eq_getElem hi, List.getElem?_eq_getElem hj]
  exact congrArg some (by simpa using e)
theorem Sim.num (h : Sim k r bl) {s : List UInt8} {i : Nat} (hi : rfind r.dir s = some i) : i < bl.length ∧ k.name s = bl.getD i 0 ∧ r.num s = i ∧ i ∈ rnums r.dir := by
  have hm : i ∈ rnums r.dir := List.mem_map.2 ⟨_, rfind_mem hi, rfl⟩
  refine ⟨h.dir.lt i hm, ?_, ?_, hm⟩
  · unfold Dk.name; rw [h.dir.at_, hi]; rfl
  · unfold RD.num; rw [hi]; rfl
theorem Sim.got (h : Sim k r bl) {i : Nat} (hi : i < bl.length) : k.got (bl.getD i 0) = r.got i ∧ r.files[i]? = some (r.got i) := by
  have hl : i < r.files.length := by rw [h.len]; exact hi
  have e : r.files[i]? = some (r.got i) := by unfold RD.got; rw [List.getD_eq_getElem?_getD, List.getElem?_eq_getElem hl]; rfl
  refine ⟨?_, e⟩
  unfold Dk.got
  rw [h.file i _ e]; rfl
theorem rsize_got (r : RD) (i : Nat) : rsize r.files i = (r.got i).data.length := rfl
theorem Sim.setFile (h : Sim k r bl) {i : Nat} (hi : i < bl.length) (x : File) (u : Int) (hu : u = (rsum (r.files.set i x) (rnums r.dir) : Int)) (m : Nat) : Sim { k.upd (bl.getD i 0) x with used := u, room := m } { r with files := r.files.set i x } bl := by
  refine ⟨h.cap, h.down, h.left, by simpa using h.len, h.nodup, ?_, h.dir, h.safe, h.acts, h.actLt, h.hist, h.inj, hu⟩
  intro j y hj
  show (if bl.getD j 0 = bl.getD i 0 then some x else k.file (bl.getD j 0)) = some y
  have hj' : (r.files.set i x)[j]? = some y := hj
  have hjl : j < bl.length := by
    rcases Nat.lt_or_ge j bl.length with h' | h'
    · exact h'
    · rw [List.getElem?_eq_none (by simp; rw [h.len]; exact h')] at hj'; cases hj'
  by_cases e : j = i
  · subst e
    rw [if_pos rfl]
    rw [List.getElem?_set_self (by rw [h.len]; exact hi)] at hj'
    exact hj'
  · rw [if_neg (fun e' => e (getD_inj h.nodup hjl hi e'))]
    rw [List.getElem?_set_ne (Ne.symm e)] at hj'
    exact h.file j y hj'
theorem rsum_set_out {F : List File} {i : Nat} {x : File} {l : List Nat} (h : i ∉ l) : rsum (F.set i x) l = rsum F l := by
  unfold rsum
  congr 1
  apply List.map_congr_left
  intro j hj
  unfold rsize
  rw [List.getD_eq_getElem?_getD, List.getD_eq_getElem?_getD, List.getElem?_set_ne (fun e => h (by rw [e]; exact hj))]
theorem rsize_set {F : List File} {i : Nat} {x : File} (h : i < F.length) : rsize (F.set i x) i = x.data.length := by
  unfold rsize
  rw [List.getD_eq_getElem?_getD, List.getElem?_set_self h]; rfl
theorem rsum_set {F : List File} {i : Nat} {x : File} {l : List Nat} (hl : l.Nodup) (hi : i ∈ l) (h : i < F.length) : rsum (F.set i x) l + rsize F i = rsum F l + x.data.length := by
  induction l with
  | nil => cases hi
  | cons j l ih =>
    rw [rsum_cons, rsum_cons]
    obtain ⟨h1, h2⟩ := List.nodup_cons.1 hl
    by_cases e : j = i
    · subst e
      rw [rsum_set_out h1, rsize_set h]; omega
    · have := ih h2 ((List.mem_cons.1 hi).resolve_left (fun e' => e e'.symm))
      have e2 : rsize (F.set i x) j = rsize F j := by
        unfold rsize
        rw [List.getD_eq_getElem?_getD, List.getD_eq_getElem?_getD, List.getElem?_set_ne (Ne.symm e)]
      omega
end
end Go.Proofs.YtabcdodjkfknlaaGreatDoor
namespace Go.Proofs.YtabcdodjkfknlaaGreatDoor
section
variable {k : Dk} {r : RD} {bl : List Nat}
theorem toArr (s : ByteArray) : (⟨s.data.toList.toArray⟩ : ByteArray) = s := by simp
/-- files that no name stands for -/
theorem Sim.fresh (h : Sim k r bl) {f : Nat} (hf : k.file f = none) : f ∉ bl := by
  intro hm
  obtain ⟨i, hi, e⟩ := List.getElem_of_mem hm
  have hl : i < r.files.length := by rw [h.len]; exact hi
  have := h.file i _ (List.getElem?_eq_getElem hl)
  rw [List.getD_eq_getElem?_getD, List.getElem?_eq_getElem hi, e] at this
  simp [hf] at this
theorem getD_mem {bl : List Nat} {i : Nat} (h : i < bl.length) : bl.getD i 0 ∈ bl := by
  rw [List.getD_eq_getElem?_getD, List.getElem?_eq_getElem h]; exact List.getElem_mem h
theorem Sim.updFresh (h : Sim k r bl) {f : Nat} (hf : k.file f = none) (x : File) : Sim (k.upd f x) r bl := by
  refine ⟨h.cap, h.down, h.left, h.len, h.nodup, fun i y hy => ?_, h.dir, h.safe, h.acts, h.actLt, h.hist, h.inj, h.used⟩
  have hl : i < bl.length := by
    rw [← h.len]
    exact (List.getElem?_eq_some_iff.1 hy).1
  show (if bl.getD i 0 = f then some x else k.file (bl.getD i 0)) = some y
  rw [if_neg (fun e => h.fresh hf (by rw [← e]; exact getD_mem hl))]
  exact h.file i y hy
theorem rsum_app {F : List File} {x : File} {l : List Nat} (h : ∀ i ∈ l, i < F.length) : rsum (F ++ [x]) l = rsum F l := by
  unfold rsum
  congr 1
  apply List.map_congr_left
  intro j hj
  unfold rsize
  rw [List.getD_eq_getElem?_getD, List.getD_eq_getElem?_getD, List.getElem?_append_left (h j hj)]
theorem Sim.newFile (h : Sim k r bl) {f : Nat} (hf : k.file f = none) (x : File) : Sim (k.upd f x) { r with files := r.files ++ [x] } (bl ++ [f]) := by
  have hnd : (bl ++ [f]).Nodup := by
    rw [List.nodup_append]
    refine ⟨h.nodup, by simp, fun a ha b hb e => ?_⟩
    rw [List.mem_singleton] at hb
    rw [e, hb] at ha
    exact h.fresh hf ha
  have hu := h.updFresh hf x
  refine ⟨h.cap, h.down, h.left, by simp [h.len], hnd, fun i y hy => ?_, h.dir.grow f, h.safe.grow f, ?_, fun a ha ht => by have := h.actLt a ha ht; simp; omega, h.hist, h.inj, ?_⟩
  · replace hy : (r.files ++ [x])[i]? = some y := hy
    rcases Nat.lt_or_ge i bl.length with hi | hi
    · rw [List.getElem?_append_left (by rw [h.len]; exact hi)] at hy
      rw [List.getD_eq_getElem?_getD, List.getElem?_append_left hi, ← List.getD_eq_getElem?_getD]
      exact hu.file i y hy
    · rw [List.getElem?_append_right (by rw [h.len]; exact hi)] at hy
      have h0 : i - r.files.length = 0 := by
        have := (List.getElem?_eq_some_iff.1 hy).1
        simp at this; omega
      rw [h0] at hy
      have hi' : i = bl.length := by rw [h.len] at h0; omega
      subst hi'
      rw [List.getD_eq_getElem?_getD, List.getElem?_append_right (Nat.le_refl _), Nat.sub_self]
      show (if f = f then some x else _) = some y
      rw [if_pos rfl]; simpa using hy
  · show k.acts = _
    rw [h.acts]
    exact List.map_congr_left fun a ha => (actOf_grow (h.actLt a ha) f).symm
  · show k.used = ((rsum (r.files ++ [x]) (rnums r.dir) : Nat) : Int)
    rw [rsum_app (fun i hi => by rw [h.len]; exact h.dir.lt i hi)]
    exact h.used
theorem findE_zero {r : RD} {s : List UInt8} (h : r.findE s = 0) : r.down = false ∧ dName s = true ∧ ∃ i, rfind r.dir s = some i := by
  unfold RD.findE RD.may at h
  cases hd : r.down <;> cases hn : dName s <;> cases hf : rfind r.dir s <;> simp [hd, hn, hf] at h ⊢
theorem findE_four {r : RD} {s : List UInt8} (h : r.findE s = 4) : r.down = false ∧ dName s = true ∧ rfind r.dir s = none := by
  unfold RD.findE RD.may at h
  cases hd : r.down <;> cases hn : dName s <;> cases hf : rfind r.dir s <;> simp [hd, hn, hf] at h ⊢
theorem dName_nil {s : List UInt8} (h : dName s = true) : s ≠ [] := by
  rintro rfl; cases h
theorem Sim.createE (h : Sim k r bl) (s : List UInt8) : k.createE s = r.createE s := by unfold Dk.createE RD.createE; rw [h.findE, h.burns]
theorem Sim.create (h : Sim k r bl) {f : Nat} (hf : k.file f = none) (s : ByteArray) : ∃ bl', Sim (k.created f s) (r.create s.data.toList) bl' := by
  unfold Dk.created RD.create
  rw [h.findE, h.burns]
  split
  · rename_i h4
    obtain ⟨h1, h2, h3⟩ := findE_four h4
    have hne := dName_nil h2
    split
    · refine ⟨bl ++ [f], ?_⟩
      have hb := (h.newFile hf ⟨[], 0⟩).burn
      have hc : ({ r with files := r.files ++ [⟨[], 0⟩] } : RD).burn = { r.burn with files := r.files ++ [⟨[], 0⟩] } := by
        unfold RD.burn
        split
        · rfl
        · split <;> rfl
      have hfb : r.burn.files = r.files := (RD.burn_same r).2.1
      have hdb : r.burn.dir = r.dir := (RD.burn_same r).2.2.1
      rw [hc] at hb
      have hnot : r.files.length ∉ rnums (rlo r.dir s.data.toList) ++ rnums (rhi r.dir s.data.toList) := fun hm => by
        have h5 := rnums_all h.dir.sorted s.data.toList
        rw [h3] at h5
        have := h.dir.lt _ (h5.mem_iff.2 hm)
        rw [h.len] at this; omega
      have hperm := rnums_all h.dir.sorted s.data.toList
      rw [h3] at hperm
      have hr : rdone r.dir ⟨[], s.data.toList, r.files.length⟩ = rset r.dir s.data.toList (some r.files.length) := by
        unfold rdone; rw [if_neg hne, if_pos rfl]
      have hput := rnums_put h.dir.sorted s.data.toList r.files.length
      have := hb.noted ⟨[], s.data.toList, r.files.length⟩ (fun _ => by simp [h.len]) (by
        show (rnums (rdone r.burn.dir _)).Nodup
        rw [hdb, hr]
        exact hput.nodup_iff.2 (List.nodup_cons.2 ⟨hnot, hperm.nodup_iff.1 h.dirNodup⟩)) ((k.upd f ⟨[], 0⟩).burn.usedBy ⟨⟨#[]⟩, s, some f⟩) (by
        show _ = ((rsum (r.files ++ [⟨[], 0⟩]) (rnums (rdone r.burn.dir _)) : Nat) : Int)
        rw [hdb, hr, rsum_perm hput, rsum_cons]
        have e0 : rsize (r.files ++ [⟨[], 0⟩]) r.files.length = 0 := by
          unfold rsize; rw [List.getD_eq_getElem?_getD, List.getElem?_append_right (Nat.le_refl _), Nat.sub_self]; rfl
        have hd0 : (k.upd f ⟨[], 0⟩).burn.dir s.data.toList = none := by
          rw [show (k.upd f ⟨[], 0⟩).burn.dir = k.dir from (Go.Proofs.YtabcdodjkfknlaaGreatDoor.burn_same _).1, h.dir.at_, h3]; rfl
        have hub : (k.upd f ⟨[], 0⟩).burn.usedBy ⟨⟨#[]⟩, s, some f⟩ = k.used := by
          unfold Dk.usedBy
          rw [hd0]
          exact (Go.Proofs.YtabcdodjkfknlaaGreatDoor.burn_same _).2.2.2.2.2.1
        have e1 : rsum (r.files ++ [⟨[], 0⟩]) (rnums (rlo r.dir s.data.toList) ++ rnums (rhi r.dir s.data.toList)) = r.used := by
          unfold RD.used
          rw [rsum_app (fun i hi => by rw [h.len]; exact h.dir.lt _ (hperm.mem_iff.2 hi)), rsum_perm hperm]; rfl
        rw [hub, e0, e1, Nat.zero_add]
        exact h.used)
      have ea : actOf (bl ++ [f]) ⟨[], s.data.toList, r.files.length⟩ = ⟨⟨#[]⟩, s, some f⟩ := by
        unfold actOf
        rw [if_neg hne, h.len, List.getD_eq_getElem?_getD, List.getElem?_append_right (Nat.le_refl _), Nat.sub_self]
        rfl
      rw [ea] at this
      exact this
    · exact ⟨bl, (h.updFresh hf _).burn⟩
  · exact ⟨bl, h⟩
theorem Sim.fits (h : Sim k r bl) (n : Nat) : (k.cap - k.used < (n : Int)) ↔ r.cap < r.used + n := by
  rw [h.cap, h.used]; omega
theorem Sim.appE (h : Sim k r bl) (s : List UInt8) (n : Nat) : k.appE s n = r.appE s n := by
  unfold Dk.appE RD.appE
  rw [h.findE, h.burns]
  split
  · by_cases e : r.cap < r.used + n
    · rw [if_pos e, if_pos ((h.fits n).2 e)]
    · rw [if_neg e, if_neg (fun e' => e ((h.fits n).1 e'))]
  · rfl
theorem Sim.append (h : Sim k r bl) (s b : List UInt8) : Sim (k.apped s b) (r.append s b) bl := by
  unfold Dk.apped RD.append
  rw [h.findE, h.burns]
  split
  · rename_i h0
    obtain ⟨_, _, i, hi⟩ := findE_zero h0
    obtain ⟨n1, n2, n3, n4⟩ := h.num hi
    by_cases e : r.cap < r.used + b.length
    · rw [if_pos e, if_pos ((h.fits _).2 e)]; exact h
    · rw [if_neg e, if_neg (fun e' => e ((h.fits _).1 e'))]
      split
      · have hb := h.burn
        obtain ⟨s1, s2, s3, s4, s5, s6⟩ := RD.burn_same r
        obtain ⟨g1, g2⟩ := hb.got n1
        have hg : r.burn.got i = r.got i := by unfold RD.got; rw [s2]
        rw [hg] at g1 g2
        have hk : k.burn.used = k.used := (Go.Proofs.YtabcdodjkfknlaaGreatDoor.burn_same k).2.2.2.2.2.1
        have := hb.setFile n1 ⟨(r.got i).data ++ b, (r.got i).safe⟩ (k.used + b.length) (by
          rw [s2, s3]
          have := rsum_set (F := r.files) (x := ⟨(r.got i).data ++ b, (r.got i).safe⟩) h.dirNodup n4 (by rw [h.len]; exact n1)
          rw [rsize_got] at this
          simp only [List.length_append] at this
          have hu := h.used
          unfold RD.used at hu
          omega) (k.burn.room + 1)
        rw [s2] at this
        rw [n2, n3]
        unfold Dk.more
        rw [g1, hk]
        exact this
      · exact h.burn
  · exact h
theorem Sim.readB (h : Sim k r bl) (s : List UInt8) : k.readB s = r.readB s := by
  unfold Dk.readB RD.readB
  rw [h.findE]
  split
  · rename_i h0
    obtain ⟨_, _, i, hi⟩ := findE_zero h0
    obtain ⟨n1, n2, n3, n4⟩ := h.num hi
    rw [n2, n3, (h.got n1).1]
  · rfl
theorem Sim.syncE (h : Sim k r bl) (s : List UInt8) : k.syncE s = r.syncE s := by unfold Dk.syncE RD.syncE; rw [h.findE, h.burns]
theorem rsum_same {F : List File} {i : Nat} {x : File} {l : List Nat} (h : i < F.length) (hx : x.data.length = (F.getD i ⟨[], 0⟩).data.length) : rsum (F.set i x) l = rsum F l := by
  unfold rsum
  congr 1
  apply List.map_congr_left
  intro j _
  by_cases e : j = i
  · subst e; rw [rsize_set h, hx]; rfl
  · unfold rsize
    rw [List.getD_eq_getElem?_getD, List.getD_eq_getElem?_getD, List.getElem?_set_ne (Ne.symm e)]
theorem Sim.sync (h : Sim k r bl) (s : List UInt8) : Sim (k.synced s) (r.sync s) bl := by
  unfold Dk.synced RD.sync
  rw [h.findE, h.burns]
  split
  · rename_i h0
    obtain ⟨_, _, i, hi⟩ := findE_zero h0
    obtain ⟨n1, n2, n3, n4⟩ := h.num hi
    split
    · have hb := h.burn
      obtain ⟨s1, s2, s3, s4, s5, s6⟩ := RD.burn_same r
      have := hb.setFile n1 ⟨(r.got i).data, (r.got i).data.length⟩ k.burn.used (by
        have hu := hb.used
        unfold RD.used at hu
        have e := rsum_same (F := r.files) (x := ⟨(r.got i).data, (r.got i).data.length⟩) (l := rnums r.burn.dir) (i := i) (by rw [h.len]; exact n1) rfl
        rw [hu, s2, e]) k.burn.room
      rw [s2] at this
      rw [n2, n3, (h.got n1).1]
      exact this
    · exact h.burn
  · exact h
theorem Sim.syncDirE (h : Sim k r bl) : k.syncDirE = r.syncDirE := by unfold Dk.syncDirE RD.syncDirE; rw [h.down, h.burns]
theorem Sim.syncDir (h : Sim k r bl) : Sim k.syncedDir r.syncDir bl := by
  unfold Dk.syncedDir RD.syncDir
  rw [h.down, h.burns]
  split
  · exact h
  · have hb := h.burn
    split
    · exact ⟨hb.cap, hb.down, hb.left, hb.len, hb.nodup, hb.file, hb.dir, hb.dir, rfl, fun a ha => (by cases ha), rfl, fun j => by
        show (rnums ((([] : List RAct).take j).foldl rdone r.burn.dir)).Nodup
        rw [List.take_nil]; exact hb.dirNodup, hb.used⟩
    · exact hb
theorem Sim.names (h : Sim k r bl) {ns : List (List UInt8)} (hn : Names k.list ns) : ns = r.list := by
  unfold RD.list
  unfold Dk.list at hn
  rw [h.down] at hn
  cases hd : r.down
  · rw [hd] at hn
    exact hn.unique ⟨List.pairwise_map.2 h.dir.sorted, fun x => by
      show x ∈ r.dir.map Prod.fst ↔ (k.dir x).isSome = true
      rw [h.dir.at_]
      constructor
      · intro hx
        obtain ⟨n, hn, rfl⟩ := List.mem_map.1 hx
        rw [rmem_find h.dir.sorted hn]; rfl
      · intro hx
        cases hf : rfind r.dir x with
        | none => rw [hf] at hx; cases hx
        | some i => exact List.mem_map.2 ⟨_, rfind_mem hf, rfl⟩⟩
  · rw [hd] at hn
    exact hn.unique ⟨List.Pairwise.nil, fun x => by simp⟩
theorem Sim.renameE (h : Sim k r bl) (a b : List UInt8) : k.renameE a b = r.renameE a b := by
  unfold Dk.renameE RD.renameE; rw [h.may, h.findE, h.burns]
theorem Sim.removeE (h : Sim k r bl) (a : List UInt8) : k.removeE a = r.removeE a := by
  unfold Dk.removeE RD.removeE; rw [h.findE, h.burns]
/-- a file's name is taken -/
theorem Sim.gone (h : Sim k r bl) {a : List UInt8} {i : Nat} (hi : rfind r.dir a = some i) : i ∉ rnums (rset r.dir a none) ∧ (rnums (rset r.dir a none)).Nodup ∧ rsum r.files (rnums (rset r.dir a none)) + (r.got i).data.length = r.used := by
  have hp := rnums_all h.dir.sorted a
  rw [hi] at hp
  have hd := rnums_del h.dir.sorted a
  have hn := hp.nodup_iff.1 h.dirNodup
  obtain ⟨h1, h2⟩ := List.nodup_cons.1 hn
  refine ⟨fun hm => h1 (hd.mem_iff.1 hm), hd.nodup_iff.2 h2, ?_⟩
  rw [rsum_perm hd]
  unfold RD.used
  rw [rsum_perm hp, ← rsize_got]
  exact (Nat.add_comm _ _).trans (rsum_cons r.files i _).symm
theorem Sim.remove (h : Sim k r bl) (s : ByteArray) : Sim (k.removed s) (r.remove s.data.toList) bl := by
  unfold Dk.removed RD.remove
  rw [h.findE, h.burns]
  split
  · rename_i h0
    obtain ⟨_, hdn, i, hi⟩ := findE_zero h0
    obtain ⟨n1, n2, n3, n4⟩ := h.num hi
    split
    · have hb := h.burn
      obtain ⟨s1, s2, s3, s4, s5, s6⟩ := RD.burn_same r
      obtain ⟨g1, g2, g3⟩ := h.gone hi
      have hne := dName_nil hdn
      have hr : rdone r.dir ⟨s.data.toList, [], 0⟩ = rset r.dir s.data.toList none := by
        unfold rdone; rw [if_pos rfl, if_neg hne]
      have ea : actOf bl ⟨s.data.toList, [], 0⟩ = ⟨s, ⟨#[]⟩, none⟩ := rfl
      have hu : (k.did ⟨s, ⟨#[]⟩, none⟩).used = k.used := by
        show k.burn.usedBy ⟨s, ⟨#[]⟩, none⟩ = k.used
        unfold Dk.usedBy
        have : k.burn.dir (⟨#[]⟩ : ByteArray).data.toList = none := by
          rw [show k.burn.dir = k.dir from (Go.Proofs.YtabcdodjkfknlaaGreatDoor.burn_same _).1, h.dir.at_]
          cases hf : rfind r.dir (⟨#[]⟩ : ByteArray).data.toList with
          | none => rfl
          | some j => exact absurd rfl (h.dir.named _ (rfind_mem hf))
        rw [this]
        exact (Go.Proofs.YtabcdodjkfknlaaGreatDoor.burn_same _).2.2.2.2.2.1
      have := hb.noted ⟨s.data.toList, [], 0⟩ (fun e => absurd rfl e) (by rw [s3, hr]; exact g2) (k.used - (k.got (k.name s.data.toList)).data.length) (by
        rw [s2, s3, hr, n2, (h.got n1).1]
        have := h.used
        omega)
      rw [ea] at this
      unfold Dk.gone
      rw [hu]
      exact this
    · exact h.burn
  · exact h
theorem Sim.rename (h : Sim k r bl) (s t : ByteArray) : Sim (k.renamed s t) (r.rename s.data.toList t.data.toList) bl := by
  unfold Dk.renamed RD.rename
  rw [h.may, h.findE, h.burns]
  split
  · rename_i hm
    have hdt : dName t.data.toList = true := by
      unfold RD.may at hm
      cases hd : r.down <;> cases hs : dName s.data.toList <;> cases ht : dName t.data.toList <;> simp [hd, hs, ht] at hm ⊢
    split
    · rename_i h0
      obtain ⟨_, hdn, i, hi⟩ := findE_zero h0
      obtain ⟨n1, n2, n3, n4⟩ := h.num hi
      split
      · have hb := h.burn
        obtain ⟨s1, s2, s3, s4, s5, s6⟩ := RD.burn_same r
        obtain ⟨g1, g2, g3⟩ := h.gone hi
        have hne := dName_nil hdn
        have hnt := dName_nil hdt
        have hr : rdone r.dir ⟨s.data.toList, t.data.toList, i⟩ = rset (rset r.dir s.data.toList none) t.data.toList (some i) := by
          unfold rdone; rw [if_neg hnt, if_neg hne]
        have hs1 : RSorted (rset r.dir s.data.toList none) := rset_sorted h.dir.sorted _ _
        have hall := rnums_all hs1 t.data.toList
        have hput := rnums_put hs1 t.data.toList i
        have hft := rfind_set h.dir.sorted s.data.toList none t.data.toList
        have ea : actOf bl ⟨s.data.toList, t.data.toList, i⟩ = ⟨s, t, some (bl.getD i 0)⟩ := by
          unfold actOf; rw [if_neg hnt]
        have hlow : i ∉ rnums (rlo (rset r.dir s.data.toList none) t.data.toList) ++ rnums (rhi (rset r.dir s.data.toList none) t.data.toList) := fun hm => g1 (hall.mem_iff.2 (List.mem_append_right _ hm))
        have hnd : (rnums (rlo (rset r.dir s.data.toList none) t.data.toList) ++ rnums (rhi (rset r.dir s.data.toList none) t.data.toList)).Nodup := (List.nodup_append.1 (hall.nodup_iff.1 g2)).2.1
        have := hb.noted ⟨s.data.toList, t.data.toList, i⟩ (fun _ => n1) (by rw [s3, hr]; exact hput.nodup_iff.2 (List.nodup_cons.2 ⟨hlow, hnd⟩)) (k.burn.usedBy ⟨s, t, some (bl.getD i 0)⟩) (by
          rw [s2, s3, hr, rsum_perm hput, rsum_cons, rsize_got]
          rw [rsum_perm hall, rsum_append] at g3
          unfold Dk.usedBy
          rw [show k.burn.dir = k.dir from (Go.Proofs.YtabcdodjkfknlaaGreatDoor.burn_same _).1, h.dir.at_, show k.burn.used = k.used from (Go.Proofs.YtabcdodjkfknlaaGreatDoor.burn_same _).2.2.2.2.2.1, h.used]
          by_cases e : t.data.toList = s.data.toList
          · rw [if_pos e] at hft
            rw [hft] at g3
            rw [e, hi]
            simp only [Option.map_some, if_true]
            simp only [rsum, List.map_nil, List.sum_nil] at g3 ⊢
            rw [e] at g3
            omega
          · rw [if_neg e] at hft
            rw [hft] at g3
            cases hf : rfind r.dir t.data.toList with
            | none =>
              rw [hf] at g3
              simp only [Option.map_none]
              simp only [rsum, List.map_nil, List.sum_nil] at g3 ⊢
              omega
            | some j =>
              rw [hf] at g3
              have hj := h.num hf
              have hij : j ≠ i := fun e' => by
                subst e'
                refine g1 (List.mem_map.2 ⟨(t.data.toList, j), ?_, rfl⟩)
                exact rfind_mem (hft.trans hf)
              have hne2 : ¬ (some (bl.getD i 0) = some (bl.getD j 0)) := fun e' => hij (getD_inj h.nodup hj.1 n1 (Option.some.inj e').symm)
              simp only [Option.map_some]
              rw [if_neg hne2]
              have hsz : k.burn.size (bl.getD j 0) = rsize r.files j := by
                unfold Dk.size
                rw [show k.burn.file = k.file from (Go.Proofs.YtabcdodjkfknlaaGreatDoor.burn_same _).2.2.2.1, h.file j _ (h.got hj.1).2]; rfl
              rw [hsz]
              simp only [rsum, List.map_cons, List.map_nil, List.sum_cons, List.sum_nil] at g3 ⊢
              omega)
        rw [ea] at this
        rw [n2, n3]
        exact this
      · exact h.burn
    · exact h
  · exact h
end
end Go.Proofs.YtabcdodjkfknlaaGreatDoor
namespace Go.Proofs.YtabcdodjkfknlaaGreatDoor
/-- files alike -/
structure FSim (k : Dk) (F : List File) (bl : List Nat) : Prop where
  len : F.length = bl.length
  nodup : bl.Nodup
  file : ∀ i x, F[i]? = some x → k.file (bl.getD i 0) = some x
  safe : ∀ i, (F.getD i ⟨[], 0⟩).safe ≤ (F.getD i ⟨[], 0⟩).data.length
theorem Sim.new (cap : Int) : Sim (Dk.new cap) (RD.new cap) [] :=
  ⟨rfl, rfl, rfl, rfl, List.nodup_nil, fun i x h => (by simp [RD.new] at h), ⟨List.Pairwise.nil, fun i h => (by cases h), fun n h => (by cases h), fun _ => rfl⟩, ⟨List.Pairwise.nil, fun i h => (by cases h), fun n h => (by cases h), fun _ => rfl⟩, rfl, fun a h => (by cases h), rfl, fun j => by
    show (rnums ((([] : List RAct).take j).foldl rdone [])).Nodup
    rw [List.take_nil]; exact List.nodup_nil, rfl⟩
end Go.Proofs.YtabcdodjkfknlaaGreatDoor
namespace Go.Proofs.YtabcdodjkfknlaaGreatDoor
/-- what a name has -/
def RD.view (r : RD) (s : List UInt8) : Option (List UInt8) := (rfind r.dir s).map fun i => (r.got i).data
/-- a disk that is up, without a fuse -/
structure Okd (r : RD) : Prop where
  up : r.down = false
  left : r.left = -1
  sd : RSorted r.dir
  nd : ∀ n ∈ r.dir, n.2 < r.files.length
  inj : (rnums r.dir).Nodup
theorem rmem_inj : ∀ {d : RDir}, (rnums d).Nodup → ∀ {a b : List UInt8 × Nat}, a ∈ d → b ∈ d → a.2 = b.2 → a = b
  | [], _, _, _, h, _, _ => by cases h
  | n :: d, hn, a, b, ha, hb, e => by
    have hn' : n.2 ∉ rnums d ∧ (rnums d).Nodup := List.nodup_cons.1 hn
    rcases List.mem_cons.1 ha with ea | ha2
    · rcases List.mem_cons.1 hb with eb | hb2
      · rw [ea, eb]
      · exact absurd (List.mem_map.2 ⟨_, hb2, by rw [← e, ea]⟩) hn'.1
    · rcases List.mem_cons.1 hb with eb | hb2
      · exact absurd (List.mem_map.2 ⟨_, ha2, by rw [e, eb]⟩) hn'.1
      · exact rmem_inj hn'.2 ha2 hb2 e
theorem rfind_inj {d : RDir} (h : (rnums d).Nodup) {s t : List UInt8} {i : Nat} (hs : rfind d s = some i) (ht : rfind d t = some i) : s = t :=
  congrArg Prod.fst (rmem_inj h (rfind_mem hs) (rfind_mem ht) rfl)
theorem got_app {F : List File} {x : File} {i : Nat} (h : i < F.length) : (F ++ [x]).getD i ⟨[], 0⟩ = F.getD i ⟨[], 0⟩ := by
  rw [List.getD_eq_getElem?_getD, List.getElem?_append_left h, List.getD_eq_getElem?_getD]
theorem got_end {F : List File} {x : File} : (F ++ [x]).getD F.length ⟨[], 0⟩ = x := by
  rw [List.getD_eq_getElem?_getD, List.getElem?_append_right (Nat.le_refl _), Nat.sub_self]; rfl
theorem got_set {F : List File} {x : File} {i j : Nat} (h : i < F.length) : (F.set i x).getD j ⟨[], 0⟩ = if j = i then x else F.getD j ⟨[], 0⟩ := by
  rw [List.getD_eq_getElem?_getD]
  split
  · rename_i e; subst e; rw [List.getElem?_set_self h]; rfl
  · rename_i e; rw [List.getElem?_set_ne (Ne.symm e), List.getD_eq_getElem?_getD]
section
variable {r : RD}
theorem Okd.new (cap : Int) : Okd (RD.new cap) := ⟨rfl, rfl, List.Pairwise.nil, fun n h => (by cases h), List.nodup_nil⟩
theorem Okd.burn (h : Okd r) : r.burn = r := by
  unfold RD.burn
  rw [h.left, if_neg (by decide), if_neg (by decide)]
theorem Okd.burns (h : Okd r) : r.burns = true := by unfold RD.burns; rw [h.left]; rfl
theorem Okd.may (h : Okd r) (b : Bool) : r.may b = if b then 0 else 2 := by unfold RD.may; rw [h.up]; rfl
theorem Okd.findE (h : Okd r) {s : List UInt8} (hs : dName s = true) : r.findE s = if (r.view s).isSome then 0 else 4 := by
  unfold RD.findE RD.view
  rw [h.may, hs]
  simp
theorem Okd.find (h : Okd r) {s c : List UInt8} (hs : dName s = true) (hv : r.view s = some c) : r.findE s = 0 ∧ ∃ i, rfind r.dir s = some i ∧ (r.got i).data = c ∧ r.num s = i ∧ i < r.files.length := by
  refine ⟨by rw [h.findE hs, hv]; rfl, ?_⟩
  unfold RD.view at hv
  cases hf : rfind r.dir s with
  | none => rw [hf] at hv; cases hv
  | some i =>
    rw [hf] at hv
    exact ⟨i, rfl, Option.some.inj hv, by unfold RD.num; rw [hf]; rfl, h.nd _ (rfind_mem hf)⟩
theorem Okd.miss (h : Okd r) {s : List UInt8} (hs : dName s = true) (hv : r.view s = none) : r.findE s = 4 ∧ rfind r.dir s = none := by
  refine ⟨by rw [h.findE hs, hv]; rfl, ?_⟩
  unfold RD.view at hv
  simpa using hv
theorem Okd.readB (h : Okd r) {s c : List UInt8} (hs : dName s = true) (hv : r.view s = some c) : r.readB s = c := by
  obtain ⟨h1, i, h2, h3, h4, _⟩ := h.find hs hv
  unfold RD.readB
  rw [if_pos h1, h4, h3]
/-- one file is turned -/
theorem Okd.turn (h : Okd r) {i : Nat} (hi : i < r.files.length) (x : File) : Okd { r with files := r.files.set i x } ∧ ∀ t, ({ r with files := r.files.set i x } : RD).view t = if rfind r.dir t = some i then some x.data else r.view t := by
  refine ⟨⟨h.up, h.left, h.sd, fun n hn => by show _ < (r.files.set i x).length; rw [List.length_set]; exact h.nd n hn, h.inj⟩, fun t => ?_⟩
  show (rfind r.dir t).map (fun j => ((r.files.set i x).getD j ⟨[], 0⟩).data) = _
  unfold RD.view
  cases hf : rfind r.dir t with
  | none => rfl
  | some j =>
    show some ((r.files.set i x).getD j ⟨[], 0⟩).data = _
    rw [got_set hi]
    by_cases e : j = i
    · rw [if_pos e, if_pos (by rw [e])]
    · rw [if_neg e, if_neg (fun e' => e (Option.some.inj e'))]; rfl
/-- what is left of a name's number, and of the room, once the name is gone -/
theorem Okd.gone (h : Okd r) {a : List UInt8} {i : Nat} (hi : rfind r.dir a = some i) : i ∉ rnums (rset r.dir a none) ∧ (rnums (rset r.dir a none)).Nodup ∧ rsum r.files (rnums (rset r.dir a none)) + (r.got i).data.length = r.used := by
  have h1 := rnums_all h.sd a
  rw [hi] at h1
  have h2 := rnums_del h.sd a
  have h3 := h1.nodup_iff.1 h.inj
  have h4 := List.nodup_cons.1 h3
  refine ⟨fun hm => h4.1 (h2.mem_iff.1 hm), h2.nodup_iff.2 h4.2, ?_⟩
  unfold RD.used
  rw [rsum_perm h1, rsum_perm h2]
  have e : rsum r.files ([i] ++ (rnums (rlo r.dir a) ++ rnums (rhi r.dir a))) = rsize r.files i + rsum r.files (rnums (rlo r.dir a) ++ rnums (rhi r.dir a)) := rsum_cons _ _ _
  show _ = rsum r.files ([i] ++ (rnums (rlo r.dir a) ++ rnums (rhi r.dir a)))
  rw [e]
  unfold rsize RD.got
  omega
theorem Okd.create (h : Okd r) {s : List UInt8} (hs : dName s = true) (hv : r.view s = none) :
    r.createE s = 0 ∧ Okd (r.create s) ∧ (∀ t, (r.create s).view t = if t = s then some [] else r.view t) ∧ (r.create s).used = r.used ∧ (r.create s).cap = r.cap := by
  obtain ⟨hf, hn⟩ := h.miss hs hv
  have hne := dName_nil hs
  have hr : rdone r.dir ⟨[], s, r.files.length⟩ = rset r.dir s (some r.files.length) := by unfold rdone; rw [if_neg hne, if_pos rfl]
  have hc : r.create s = { r with acts := r.acts ++ [⟨[], s, r.files.length⟩], dir := rset r.dir s (some r.files.length), files := r.files ++ [⟨[], 0⟩] } := by
    unfold RD.create
    rw [if_pos hf, h.burns, if_pos rfl]
    unfold RD.act
    rw [h.burn, hr]
  have hlo : ∀ i ∈ rnums (rlo r.dir s) ++ rnums (rhi r.dir s), i < r.files.length := fun i hi => by
    rcases List.mem_append.1 hi with hi | hi
    · obtain ⟨n, hn, rfl⟩ := List.mem_map.1 hi
      exact h.nd n (rmem_lo hn)
    · obtain ⟨n, hn, rfl⟩ := List.mem_map.1 hi
      exact h.nd n (rmem_hi hn)
  have hput := rnums_put h.sd s r.files.length
  have hall := rnums_all h.sd s
  rw [hn] at hall
  have hall : (rnums r.dir).Perm (rnums (rlo r.dir s) ++ rnums (rhi r.dir s)) := hall
  rw [hc]
  refine ⟨by unfold RD.createE; rw [hf, if_neg (by decide), if_pos rfl, h.burns]; rfl, ⟨h.up, h.left, rset_sorted h.sd s (some r.files.length), fun n hm => ?_, ?_⟩, fun t => ?_, ?_, rfl⟩
  · show _ < (r.files ++ [_]).length
    rw [List.length_append, List.length_singleton]
    have hm : n ∈ rset r.dir s (some r.files.length) := hm
    rcases rset_mem h.sd hm with hm | ⟨_, e⟩
    · have := h.nd n hm; omega
    · have := Option.some.inj e; omega
  · refine hput.nodup_iff.2 (List.nodup_cons.2 ⟨fun hm => ?_, hall.nodup_iff.1 h.inj⟩)
    have := hlo _ hm; omega
  · show (rfind (rset r.dir s (some r.files.length)) t).map (fun j => ((r.files ++ [(⟨[], 0⟩ : File)]).getD j ⟨[], 0⟩).data) = _
    rw [rfind_set h.sd]
    by_cases e : t = s
    · rw [if_pos e, if_pos e]
      show some ((r.files ++ [(⟨[], 0⟩ : File)]).getD r.files.length ⟨[], 0⟩).data = _
      rw [got_end]
    · rw [if_neg e, if_neg e]
      unfold RD.view
      cases hf : rfind r.dir t with
      | none => rfl
      | some j =>
        show some ((r.files ++ [(⟨[], 0⟩ : File)]).getD j ⟨[], 0⟩).data = _
        rw [got_app (h.nd _ (rfind_mem hf))]; rfl
  · show rsum (r.files ++ [(⟨[], 0⟩ : File)]) (rnums (rset r.dir s (some r.files.length))) = _
    rw [rsum_perm hput, rsum_cons, rsum_app hlo]
    unfold RD.used
    rw [rsum_perm hall]
    unfold rsize
    rw [got_end]
    exact Nat.zero_add _
theorem Okd.append (h : Okd r) {s c b : List UInt8} (hs : dName s = true) (hv : r.view s = some c) (hb : r.used + b.length ≤ r.cap) :
    r.appE s b.length = 0 ∧ Okd (r.append s b) ∧ (∀ t, (r.append s b).view t = if t = s then some (c ++ b) else r.view t) ∧ (r.append s b).used = r.used + b.length ∧ (r.append s b).cap = r.cap := by
  obtain ⟨hf, i, hi, hg, hnum, hlt⟩ := h.find hs hv
  have hc : r.append s b = { r with files := r.files.set i ⟨c ++ b, (r.got i).safe⟩ } := by
    unfold RD.append
    rw [if_pos hf, if_neg (by omega), h.burns, if_pos rfl, h.burn, hnum, hg]
  obtain ⟨h1, h2⟩ := h.turn hlt ⟨c ++ b, (r.got i).safe⟩
  rw [hc]
  refine ⟨by unfold RD.appE; rw [if_pos hf, if_neg (by omega), h.burns]; rfl, h1, fun t => ?_, ?_, rfl⟩
  · rw [h2]
    by_cases e : t = s
    · rw [if_pos e, if_pos (by rw [e]; exact hi)]
    · rw [if_neg e, if_neg (fun e' => e (rfind_inj h.inj e' hi))]
  · have := rsum_set (i := i) (x := ⟨c ++ b, (r.got i).safe⟩) h.inj (List.mem_map.2 ⟨_, rfind_mem hi, rfl⟩) hlt
    have e : rsize r.files i = c.length := by rw [← hg]; rfl
    rw [e, List.length_append] at this
    show rsum (r.files.set i _) (rnums r.dir) = rsum r.files (rnums r.dir) + _
    omega
theorem Okd.sync (h : Okd r) {s c : List UInt8} (hs : dName s = true) (hv : r.view s = some c) :
    r.syncE s = 0 ∧ Okd (r.sync s) ∧ (∀ t, (r.sync s).view t = r.view t) ∧ (r.sync s).used = r.used ∧ (r.sync s).cap = r.cap := by
  obtain ⟨hf, i, hi, hg, hnum, hlt⟩ := h.find hs hv
  have hc : r.sync s = { r with files := r.files.set i ⟨c, c.length⟩ } := by
    unfold RD.sync
    rw [if_pos hf, h.burns, if_pos rfl, h.burn, hnum, hg]
  obtain ⟨h1, h2⟩ := h.turn hlt ⟨c, c.length⟩
  rw [hc]
  refine ⟨by unfold RD.syncE; rw [if_pos hf, h.burns]; rfl, h1, fun t => ?_, ?_, rfl⟩
  · rw [h2]
    by_cases e : t = s
    · rw [if_pos (by rw [e]; exact hi), e, hv]
    · rw [if_neg (fun e' => e (rfind_inj h.inj e' hi))]
  · exact rsum_same hlt (by show c.length = _; rw [← hg]; rfl)
theorem Okd.syncDir (h : Okd r) : r.syncDirE = 0 ∧ Okd r.syncDir ∧ (∀ t, r.syncDir.view t = r.view t) ∧ r.syncDir.used = r.used ∧ r.syncDir.cap = r.cap := by
  have hc : r.syncDir = { r with safe := r.dir, acts := [] } := by
    unfold RD.syncDir
    rw [if_neg (by rw [h.up]; simp), h.burns, if_pos rfl, h.burn]
  rw [hc]
  exact ⟨by unfold RD.syncDirE; rw [if_neg (by rw [h.up]; simp), h.burns]; rfl, ⟨h.up, h.left, h.sd, h.nd, h.inj⟩, fun _ => rfl, rfl, rfl⟩
theorem Okd.remove (h : Okd r) {s c : List UInt8} (hs : dName s = true) (hv : r.view s = some c) :
    r.removeE s = 0 ∧ Okd (r.remove s) ∧ (∀ t, (r.remove s).view t = if t = s then none else r.view t) ∧ (r.remove s).used ≤ r.used ∧ (r.remove s).cap = r.cap := by
  obtain ⟨hf, i, hi, hg, hnum, hlt⟩ := h.find hs hv
  have hne := dName_nil hs
  have hr : rdone r.dir ⟨s, [], 0⟩ = rset r.dir s none := by unfold rdone; rw [if_pos rfl, if_neg hne]
  have hc : r.remove s = { r with acts := r.acts ++ [⟨s, [], 0⟩], dir := rset r.dir s none } := by
    unfold RD.remove
    rw [if_pos hf, h.burns, if_pos rfl]
    unfold RD.act
    rw [h.burn, hr]
  obtain ⟨_, g2, g3⟩ := h.gone hi
  rw [hc]
  refine ⟨by unfold RD.removeE; rw [if_pos hf, h.burns]; rfl, ⟨h.up, h.left, rset_sorted h.sd s none, fun n hm => ?_, g2⟩, fun t => ?_, ?_, rfl⟩
  · have hm : n ∈ rset r.dir s none := hm
    rcases rset_mem h.sd hm with hm | ⟨_, e⟩
    · exact h.nd n hm
    · cases e
  · show (rfind (rset r.dir s none) t).map _ = _
    rw [rfind_set h.sd]
    by_cases e : t = s
    · rw [if_pos e, if_pos e]; rfl
    · rw [if_neg e, if_neg e]; rfl
  · show rsum r.files (rnums (rset r.dir s none)) ≤ _
    omega
theorem Okd.rename (h : Okd r) {a b c : List UInt8} (ha : dName a = true) (hb : dName b = true) (hv : r.view a = some c) :
    r.renameE a b = 0 ∧ Okd (r.rename a b) ∧ (∀ t, (r.rename a b).view t = if t = b then some c else if t = a then none else r.view t) ∧ (r.rename a b).used ≤ r.used ∧ (r.rename a b).cap = r.cap := by
  obtain ⟨hf, i, hi, hg, hnum, hlt⟩ := h.find ha hv
  have hna := dName_nil ha
  have hnb := dName_nil hb
  have hr : rdone r.dir ⟨a, b, i⟩ = rset (rset r.dir a none) b (some i) := by unfold rdone; rw [if_neg hnb, if_neg hna]
  have hm : r.may (dName a && dName b) = 0 := by rw [h.may, ha, hb]; rfl
  have hc : r.rename a b = { r with acts := r.acts ++ [⟨a, b, i⟩], dir := rset (rset r.dir a none) b (some i) } := by
    unfold RD.rename
    rw [if_pos hm, if_pos hf, h.burns, if_pos rfl, hnum]
    unfold RD.act
    rw [h.burn, hr]
  obtain ⟨g1, g2, g3⟩ := h.gone hi
  have sd1 := rset_sorted h.sd a none
  have hput := rnums_put sd1 b i
  have hall := rnums_all sd1 b
  have hsub : ∀ x ∈ rnums (rlo (rset r.dir a none) b) ++ rnums (rhi (rset r.dir a none) b), x ∈ rnums (rset r.dir a none) := fun x hx => hall.mem_iff.2 (List.mem_append.2 (.inr hx))
  rw [hc]
  refine ⟨by unfold RD.renameE; rw [if_pos hm, if_pos hf, h.burns]; rfl, ⟨h.up, h.left, rset_sorted sd1 b (some i), fun n hm => ?_, ?_⟩, fun t => ?_, ?_, rfl⟩
  · have hm : n ∈ rset (rset r.dir a none) b (some i) := hm
    rcases rset_mem sd1 hm with hm | ⟨_, e⟩
    · rcases rset_mem h.sd hm with hm | ⟨_, e⟩
      · exact h.nd n hm
      · cases e
    · have := Option.some.inj e
      show n.2 < r.files.length
      omega
  · refine hput.nodup_iff.2 (List.nodup_cons.2 ⟨fun hx => g1 (hsub _ hx), ?_⟩)
    exact (List.nodup_append.1 (hall.nodup_iff.1 g2)).2.1
  · show (rfind (rset (rset r.dir a none) b (some i)) t).map (fun j => (r.got j).data) = _
    rw [rfind_set sd1]
    by_cases e : t = b
    · rw [if_pos e, if_pos e, Option.map_some, hg]
    · rw [if_neg e, if_neg e, rfind_set h.sd]
      by_cases e2 : t = a
      · rw [if_pos e2, if_pos e2]; rfl
      · rw [if_neg e2, if_neg e2]; rfl
  · show rsum r.files (rnums (rset (rset r.dir a none) b (some i))) ≤ _
    have h1 := rsum_perm (F := r.files) hput
    have h2 := rsum_perm (F := r.files) hall
    rw [rsum_append] at h2
    rw [rsum_cons] at h1
    have h3 : rsize r.files i = (r.got i).data.length := rfl
    omega
end
end Go.Proofs.YtabcdodjkfknlaaGreatDoor
