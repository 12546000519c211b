/- A disk that is up: what each name has, behind each thing that is done. No program in sight. What Start and Load make of a disk that is up. No program in sight. Walks: two versions held against each other by the document's Same. Walks: two versions held against each other by the document's Same. -/
import Derived.Test.YtabcdodjkfknlaaGreatDoorPN09
import Derived.Test.YtabcdodjkfknlaaGreatDoorPN25
import Derived.Test.YtabcdodjkfknlaaGreatDoorPN15
import Derived.Deep.QuietTactic
import Derived.BigQuiet
namespace Go.Proofs.YtabcdodjkfknlaaGreatDoor
/-- what a name has -/
def RD.view (r : RD) (s : List UInt8) : Option (List UInt8) := (rfind r.dir s).map fun i => (r.got i).data
/-- a disk that is up, without a fuse -/
structure Okd (r : RD) : Prop where
  up : r.down = false
  left : r.left = -1
  sd : RSorted r.dir
  nd : ∀ n ∈ r.dir, n.2 < r.files.length
  inj : (rnums r.dir).Nodup
theorem rmem_inj : ∀ {d : RDir}, (rnums d).Nodup → ∀ {a b : List UInt8 × Nat}, a ∈ d → b ∈ d → a.2 = b.2 → a = b
  | [], _, _, _, h, _, _ => by cases h
  | n :: d, hn, a, b, ha, hb, e => by
    have hn' : n.2 ∉ rnums d ∧ (rnums d).Nodup := List.nodup_cons.1 hn
    rcases List.mem_cons.1 ha with ea | ha2
    · rcases List.mem_cons.1 hb with eb | hb2
      · rw [ea, eb]
      · exact absurd (List.mem_map.2 ⟨_, hb2, by rw [← e, ea]⟩) hn'.1
    · rcases List.mem_cons.1 hb with eb | hb2
      · exact absurd (List.mem_map.2 ⟨_, ha2, by rw [e, eb]⟩) hn'.1
      · exact rmem_inj hn'.2 ha2 hb2 e
theorem rfind_inj {d : RDir} (h : (rnums d).Nodup) {s t : List UInt8} {i : Nat} (hs : rfind d s = some i) (ht : rfind d t = some i) : s = t :=
  congrArg Prod.fst (rmem_inj h (rfind_mem hs) (rfind_mem ht) rfl)
theorem got_app {F : List File} {x : File} {i : Nat} (h : i < F.length) : (F ++ [x]).getD i ⟨[], 0⟩ = F.getD i ⟨[], 0⟩ := by
  rw [List.getD_eq_getElem?_getD, List.getElem?_append_left h, List.getD_eq_getElem?_getD]
theorem got_end {F : List File} {x : File} : (F ++ [x]).getD F.length ⟨[], 0⟩ = x := by
  rw [List.getD_eq_getElem?_getD, List.getElem?_append_right (Nat.le_refl _), Nat.sub_self]; rfl
theorem got_set {F : List File} {x : File} {i j : Nat} (h : i < F.length) : (F.set i x).getD j ⟨[], 0⟩ = if j = i then x else F.getD j ⟨[], 0⟩ := by
  rw [List.getD_eq_getElem?_getD]
  split
  · rename_i e; subst e; rw [List.getElem?_set_self h]; rfl
  · rename_i e; rw [List.getElem?_set_ne (Ne.symm e), List.getD_eq_getElem?_getD]
section
variable {r : RD}
theorem Okd.new (cap : Int) : Okd (RD.new cap) := ⟨rfl, rfl, List.Pairwise.nil, fun n h => (by cases h), List.nodup_nil⟩
theorem Okd.burn (h : Okd r) : r.burn = r := by
  unfold RD.burn
  rw [h.left, if_neg (by decide), if_neg (by decide)]
theorem Okd.burns (h : Okd r) : r.burns = true := by unfold RD.burns; rw [h.left]; rfl
theorem Okd.may (h : Okd r) (b : Bool) : r.may b = if b then 0 else 2 := by unfold RD.may; rw [h.up]; rfl
theorem Okd.findE (h : Okd r) {s : List UInt8} (hs : dName s = true) : r.findE s = if (r.view s).isSome then 0 else 4 := by
  unfold RD.findE RD.view
  rw [h.may, hs]
  simp
theorem Okd.find (h : Okd r) {s c : List UInt8} (hs : dName s = true) (hv : r.view s = some c) : r.findE s = 0 ∧ ∃ i, rfind r.dir s = some i ∧ (r.got i).data = c ∧ r.num s = i ∧ i < r.files.length := by
  refine ⟨by rw [h.findE hs, hv]; rfl, ?_⟩
  unfold RD.view at hv
  cases hf : rfind r.dir s with
  | none => rw [hf] at hv; cases hv
  | some i =>
    rw [hf] at hv
    exact ⟨i, rfl, Option.some.inj hv, by unfold RD.num; rw [hf]; rfl, h.nd _ (rfind_mem hf)⟩
theorem Okd.miss (h : Okd r) {s : List UInt8} (hs : dName s = true) (hv : r.view s = none) : r.findE s = 4 ∧ rfind r.dir s = none := by
  refine ⟨by rw [h.findE hs, hv]; rfl, ?_⟩
  unfold RD.view at hv
  simpa using hv
theorem Okd.readB (h : Okd r) {s c : List UInt8} (hs : dName s = true) (hv : r.view s = some c) : r.readB s = c := by
  obtain ⟨h1, i, h2, h3, h4, _⟩ := h.find hs hv
  unfold RD.readB
  rw [if_pos h1, h4, h3]
/-- one file is turned -/
theorem Okd.turn (h : Okd r) {i : Nat} (hi : i < r.files.length) (x : File) : Okd { r with files := r.files.set i x } ∧ ∀ t, ({ r with files := r.files.set i x } : RD).view t = if rfind r.dir t = some i then some x.data else r.view t := by
  refine ⟨⟨h.up, h.left, h.sd, fun n hn => by show _ < (r.files.set i x).length; rw [List.length_set]; exact h.nd n hn, h.inj⟩, fun t => ?_⟩
  show (rfind r.dir t).map (fun j => ((r.files.set i x).getD j ⟨[], 0⟩).data) = _
  unfold RD.view
  cases hf : rfind r.dir t with
  | none => rfl
  | some j =>
    show some ((r.files.set i x).getD j ⟨[], 0⟩).data = _
    rw [got_set hi]
    by_cases e : j = i
    · rw [if_pos e, if_pos (by rw [e])]
    · rw [if_neg e, if_neg (fun e' => e (Option.some.inj e'))]; rfl
/-- what is left of a name's number, and of the room, once the name is gone -/
theorem Okd.gone (h : Okd r) {a : List UInt8} {i : Nat} (hi : rfind r.dir a = some i) : i ∉ rnums (rset r.dir a none) ∧ (rnums (rset r.dir a none)).Nodup ∧ rsum r.files (rnums (rset r.dir a none)) + (r.got i).data.length = r.used := by
  have h1 := rnums_all h.sd a
  rw [hi] at h1
  have h2 := rnums_del h.sd a
  have h3 := h1.nodup_iff.1 h.inj
  have h4 := List.nodup_cons.1 h3
  refine ⟨fun hm => h4.1 (h2.mem_iff.1 hm), h2.nodup_iff.2 h4.2, ?_⟩
  unfold RD.used
  rw [rsum_perm h1, rsum_perm h2]
  have e : rsum r.files ([i] ++ (rnums (rlo r.dir a) ++ rnums (rhi r.dir a))) = rsize r.files i + rsum r.files (rnums (rlo r.dir a) ++ rnums (rhi r.dir a)) := rsum_cons _ _ _
  show _ = rsum r.files ([i] ++ (rnums (rlo r.dir a) ++ rnums (rhi r.dir a)))
  rw [e]
  unfold rsize RD.got
  omega
theorem Okd.create (h : Okd r) {s : List UInt8} (hs : dName s = true) (hv : r.view s = none) :
    r.createE s = 0 ∧ Okd (r.create s) ∧ (∀ t, (r.create s).view t = if t = s then some [] else r.view t) ∧ (r.create s).used = r.used ∧ (r.create s).cap = r.cap := by
  obtain ⟨hf, hn⟩ := h.miss hs hv
  have hne := dName_nil hs
  have hr : rdone r.dir ⟨[], s, r.files.length⟩ = rset r.dir s (some r.files.length) := by unfold rdone; rw [if_neg hne, if_pos rfl]
  have hc : r.create s = { r with acts := r.acts ++ [⟨[], s, r.files.length⟩], dir := rset r.dir s (some r.files.length), files := r.files ++ [⟨[], 0⟩] } := by
    unfold RD.create
    rw [if_pos hf, h.burns, if_pos rfl]
    unfold RD.act
    rw [h.burn, hr]
  have hlo : ∀ i ∈ rnums (rlo r.dir s) ++ rnums (rhi r.dir s), i < r.files.length := fun i hi => by
    rcases List.mem_append.1 hi with hi | hi
    · obtain ⟨n, hn, rfl⟩ := List.mem_map.1 hi
      exact h.nd n (rmem_lo hn)
    · obtain ⟨n, hn, rfl⟩ := List.mem_map.1 hi
      exact h.nd n (rmem_hi hn)
  have hput := rnums_put h.sd s r.files.length
  have hall := rnums_all h.sd s
  rw [hn] at hall
  have hall : (rnums r.dir).Perm (rnums (rlo r.dir s) ++ rnums (rhi r.dir s)) := hall
  rw [hc]
  refine ⟨by unfold RD.createE; rw [hf, if_neg (by decide), if_pos rfl, h.burns]; rfl, ⟨h.up, h.left, rset_sorted h.sd s (some r.files.length), fun n hm => ?_, ?_⟩, fun t => ?_, ?_, rfl⟩
  · show _ < (r.files ++ [_]).length
    rw [List.length_append, List.length_singleton]
    have hm : n ∈ rset r.dir s (some r.files.length) := hm
    rcases rset_mem h.sd hm with hm | ⟨_, e⟩
    · have := h.nd n hm; omega
    · have := Option.some.inj e; omega
  · refine hput.nodup_iff.2 (List.nodup_cons.2 ⟨fun hm => ?_, hall.nodup_iff.1 h.inj⟩)
    have := hlo _ hm; omega
  · show (rfind (rset r.dir s (some r.files.length)) t).map (fun j => ((r.files ++ [(⟨[], 0⟩ : File)]).getD j ⟨[], 0⟩).data) = _
    rw [rfind_set h.sd]
    by_cases e : t = s
    · rw [if_pos e, if_pos e]
      show some ((r.files ++ [(⟨[], 0⟩ : File)]).getD r.files.length ⟨[], 0⟩).data = _
      rw [got_end]
    · rw [if_neg e, if_neg e]
      unfold RD.view
      cases hf : rfind r.dir t with
      | none => rfl
      | some j =>
        show some ((r.files ++ [(⟨[], 0⟩ : File)]).getD j ⟨[], 0⟩).data = _
        rw [got_app (h.nd _ (rfind_mem hf))]; rfl
  · show rsum (r.files ++ [(⟨[], 0⟩ : File)]) (rnums (rset r.dir s (some r.files.length))) = _
    rw [rsum_perm hput, rsum_cons, rsum_app hlo]
    unfold RD.used
    rw [rsum_perm hall]
    unfold rsize
    rw [got_end]
    exact Nat.zero_add _
theorem Okd.append (h : Okd r) {s c b : List UInt8} (hs : dName s = true) (hv : r.view s = some c) (hb : r.used + b.length ≤ r.cap) :
    r.appE s b.length = 0 ∧ Okd (r.append s b) ∧ (∀ t, (r.append s b).view t = if t = s then some (c ++ b) else r.view t) ∧ (r.append s b).used = r.used + b.length ∧ (r.append s b).cap = r.cap := by
  obtain ⟨hf, i, hi, hg, hnum, hlt⟩ := h.find hs hv
  have hc : r.append s b = { r with files := r.files.set i ⟨c ++ b, (r.got i).safe⟩ } := by
    unfold RD.append
    rw [if_pos hf, if_neg (by omega), h.burns, if_pos rfl, h.burn, hnum, hg]
  obtain ⟨h1, h2⟩ := h.turn hlt ⟨c ++ b, (r.got i).safe⟩
  rw [hc]
  refine ⟨by unfold RD.appE; rw [if_pos hf, if_neg (by omega), h.burns]; rfl, h1, fun t => ?_, ?_, rfl⟩
  · rw [h2]
    by_cases e : t = s
    · rw [if_pos e, if_pos (by rw [e]; exact hi)]
    · rw [if_neg e, if_neg (fun e' => e (rfind_inj h.inj e' hi))]
  · have := rsum_set (i := i) (x := ⟨c ++ b, (r.got i).safe⟩) h.inj (List.mem_map.2 ⟨_, rfind_mem hi, rfl⟩) hlt
    have e : rsize r.files i = c.length := by rw [← hg]; rfl
    rw [e, List.length_append] at this
    show rsum (r.files.set i _) (rnums r.dir) = rsum r.files (rnums r.dir) + _
    omega
theorem Okd.sync (h : Okd r) {s c : List UInt8} (hs : dName s = true) (hv : r.view s = some c) :
    r.syncE s = 0 ∧ Okd (r.sync s) ∧ (∀ t, (r.sync s).view t = r.view t) ∧ (r.sync s).used = r.used ∧ (r.sync s).cap = r.cap := by
  obtain ⟨hf, i, hi, hg, hnum, hlt⟩ := h.find hs hv
  have hc : r.sync s = { r with files := r.files.set i ⟨c, c.length⟩ } := by
    unfold RD.sync
    rw [if_pos hf, h.burns, if_pos rfl, h.burn, hnum, hg]
  obtain ⟨h1, h2⟩ := h.turn hlt ⟨c, c.length⟩
  rw [hc]
  refine ⟨by unfold RD.syncE; rw [if_pos hf, h.burns]; rfl, h1, fun t => ?_, ?_, rfl⟩
  · rw [h2]
    by_cases e : t = s
    · rw [if_pos (by rw [e]; exact hi), e, hv]
    · rw [if_neg (fun e' => e (rfind_inj h.inj e' hi))]
  · exact rsum_same hlt (by show c.length = _; rw [← hg]; rfl)
theorem Okd.syncDir (h : Okd r) : r.syncDirE = 0 ∧ Okd r.syncDir ∧ (∀ t, r.syncDir.view t = r.view t) ∧ r.syncDir.used = r.used ∧ r.syncDir.cap = r.cap := by
  have hc : r.syncDir = { r with safe := r.dir, acts := [] } := by
    unfold RD.syncDir
    rw [if_neg (by rw [h.up]; simp), h.burns, if_pos rfl, h.burn]
  rw [hc]
  exact ⟨by unfold RD.syncDirE; rw [if_neg (by rw [h.up]; simp), h.burns]; rfl, ⟨h.up, h.left, h.sd, h.nd, h.inj⟩, fun _ => rfl, rfl, rfl⟩
theorem Okd.remove (h : Okd r) {s c : List UInt8} (hs : dName s = true) (hv : r.view s = some c) :
    r.removeE s = 0 ∧ Okd (r.remove s) ∧ (∀ t, (r.remove s).view t = if t = s then none else r.view t) ∧ (r.remove s).used ≤ r.used ∧ (r.remove s).cap = r.cap := by
  obtain ⟨hf, i, hi, hg, hnum, hlt⟩ := h.find hs hv
  have hne := dName_nil hs
  have hr : rdone r.dir ⟨s, [], 0⟩ = rset r.dir s none := by unfold rdone; rw [if_pos rfl, if_neg hne]
  have hc : r.remove s = { r with acts := r.acts ++ [⟨s, [], 0⟩], dir := rset r.dir s none } := by
    unfold RD.remove
    rw [if_pos hf, h.burns, if_pos rfl]
    unfold RD.act
    rw [h.burn, hr]
  obtain ⟨_, g2, g3⟩ := h.gone hi
  rw [hc]
  refine ⟨by unfold RD.removeE; rw [if_pos hf, h.burns]; rfl, ⟨h.up, h.left, rset_sorted h.sd s none, fun n hm => ?_, g2⟩, fun t => ?_, ?_, rfl⟩
  · have hm : n ∈ rset r.dir s none := hm
    rcases rset_mem h.sd hm with hm | ⟨_, e⟩
    · exact h.nd n hm
    · cases e
  · show (rfind (rset r.dir s none) t).map _ = _
    rw [rfind_set h.sd]
    by_cases e : t = s
    · rw [if_pos e, if_pos e]; rfl
    · rw [if_neg e, if_neg e]; rfl
  · show rsum r.files (rnums (rset r.dir s none)) ≤ _
    omega
theorem Okd.rename (h : Okd r) {a b c : List UInt8} (ha : dName a = true) (hb : dName b = true) (hv : r.view a = some c) :
    r.renameE a b = 0 ∧ Okd (r.rename a b) ∧ (∀ t, (r.rename a b).view t = if t = b then some c else if t = a then none else r.view t) ∧ (r.rename a b).used ≤ r.used ∧ (r.rename a b).cap = r.cap := by
  obtain ⟨hf, i, hi, hg, hnum, hlt⟩ := h.find ha hv
  have hna := dName_nil ha
  have hnb := dName_nil hb
  have hr : rdone r.dir ⟨a, b, i⟩ = rset (rset r.dir a none) b (some i) := by unfold rdone; rw [if_neg hnb, if_neg hna]
  have hm : r.may (dName a && dName b) = 0 := by rw [h.may, ha, hb]; rfl
  have hc : r.rename a b = { r with acts := r.acts ++ [⟨a, b, i⟩], dir := rset (rset r.dir a none) b (some i) } := by
    unfold RD.rename
    rw [if_pos hm, if_pos hf, h.burns, if_pos rfl, hnum]
    unfold RD.act
    rw [h.burn, hr]
  obtain ⟨g1, g2, g3⟩ := h.gone hi
  have sd1 := rset_sorted h.sd a none
  have hput := rnums_put sd1 b i
  have hall := rnums_all sd1 b
  have hsub : ∀ x ∈ rnums (rlo (rset r.dir a none) b) ++ rnums (rhi (rset r.dir a none) b), x ∈ rnums (rset r.dir a none) := fun x hx => hall.mem_iff.2 (List.mem_append.2 (.inr hx))
  rw [hc]
  refine ⟨by unfold RD.renameE; rw [if_pos hm, if_pos hf, h.burns]; rfl, ⟨h.up, h.left, rset_sorted sd1 b (some i), fun n hm => ?_, ?_⟩, fun t => ?_, ?_, rfl⟩
  · have hm : n ∈ rset (rset r.dir a none) b (some i) := hm
    rcases rset_mem sd1 hm with hm | ⟨_, e⟩
    · rcases rset_mem h.sd hm with hm | ⟨_, e⟩
      · exact h.nd n hm
      · cases e
    · have := Option.some.inj e
      show n.2 < r.files.length
      omega
  · refine hput.nodup_iff.2 (List.nodup_cons.2 ⟨fun hx => g1 (hsub _ hx), ?_⟩)
    exact (List.nodup_append.1 (hall.nodup_iff.1 g2)).2.1
  · show (rfind (rset (rset r.dir a none) b (some i)) t).map (fun j => (r.got j).data) = _
    rw [rfind_set sd1]
    by_cases e : t = b
    · rw [if_pos e, if_pos e, Option.map_some, hg]
    · rw [if_neg e, if_neg e, rfind_set h.sd]
      by_cases e2 : t = a
      · rw [if_pos e2, if_pos e2]; rfl
      · rw [if_neg e2, if_neg e2]; rfl
  · show rsum r.files (rnums (rset (rset r.dir a none) b (some i))) ≤ _
    have h1 := rsum_perm (F := r.files) hput
    have h2 := rsum_perm (F := r.files) hall
    rw [rsum_append] at h2
    rw [rsum_cons] at h1
    have h3 : rsize r.files i = (r.got i).data.length := rfl
    omega
end
end Go.Proofs.YtabcdodjkfknlaaGreatDoor
namespace Go.Proofs.YtabcdodjkfknlaaGreatDoor
theorem cur_name : dName currentL = true := by kernel_rfl
theorem fresh_name : dName freshL = true := by kernel_rfl
theorem cur_fresh : freshL ≠ currentL := by decide
section
variable {r : RD} {s b : List UInt8}
theorem lay_up (h : Okd r) (hs : dName s = true) (hv : r.view s = none) (hb : r.used + b.length ≤ r.cap) :
    (layR r s b).2 = 0 ∧ Okd (layR r s b).1 ∧ (∀ t, (layR r s b).1.view t = if t = s then some b else r.view t) ∧ (layR r s b).1.used = r.used + b.length ∧ (layR r s b).1.cap = r.cap := by
  obtain ⟨a1, a2, a3, a4, a5⟩ := h.create hs hv
  obtain ⟨b1, b2, b3, b4, b5⟩ := a2.append (b := b) hs (by rw [a3, if_pos rfl]) (by rw [a4, a5]; exact hb)
  obtain ⟨c1, c2, c3, c4, c5⟩ := b2.sync (c := [] ++ b) hs (by rw [b3, if_pos rfl])
  have e : layR r s b = (((r.create s).append s b).sync s, 0) := by
    unfold layR
    rw [if_neg (by rw [a1]; simp), if_neg (by rw [b1]; simp), c1]
  rw [e]
  refine ⟨rfl, c2, fun t => ?_, by show RD.used _ = _; rw [c4, b4, a4], by show RD.cap _ = _; rw [c5, b5, a5]⟩
  show RD.view _ t = _
  rw [c3, b3]
  by_cases e : t = s
  · rw [if_pos e, if_pos e]; rfl
  · rw [if_neg e, if_neg e, a3, if_neg e]
theorem lay_there (h : Okd r) (hs : dName s = true) (hv : r.view s ≠ none) : layR r s b = (r, 3) := by
  have hf : r.findE s = 0 := by
    rw [h.findE hs]
    cases hx : r.view s with
    | none => exact absurd hx hv
    | some c => rfl
  have e1 : r.createE s = 3 := by unfold RD.createE; rw [if_pos hf]
  have e2 : r.create s = r := by unfold RD.create; rw [hf, if_neg (by decide)]
  unfold layR
  rw [if_pos (by rw [e1]; simp), e1, e2]
theorem old_up (h : Okd r) : (oldR r).2 = 0 ∧ Okd (oldR r).1 ∧ (∀ t, (oldR r).1.view t = if t = freshL then none else r.view t) ∧ (oldR r).1.used ≤ r.used ∧ (oldR r).1.cap = r.cap := by
  cases hv : r.view freshL with
  | none =>
    obtain ⟨h1, _⟩ := h.miss fresh_name hv
    have e1 : r.removeE freshL = 4 := by unfold RD.removeE; rw [h1, if_neg (by decide)]
    have e2 : r.remove freshL = r := by unfold RD.remove; rw [h1, if_neg (by decide)]
    have e : oldR r = (r, 0) := by unfold oldR; rw [e1, e2, if_pos rfl]
    rw [e]
    refine ⟨rfl, h, fun t => ?_, Nat.le_refl _, rfl⟩
    by_cases et : t = freshL
    · rw [if_pos et, et]; exact hv
    · rw [if_neg et]
  | some c =>
    obtain ⟨a1, a2, a3, a4, a5⟩ := h.remove fresh_name hv
    have e : oldR r = (r.remove freshL, 0) := by unfold oldR; rw [a1, if_neg (by decide)]
    rw [e]
    exact ⟨rfl, a2, a3, a4, a5⟩
/-- Start on a disk that is up, with room, the name not there -/
theorem start_up (h : Okd r) (hs : dName s = true) (hv : r.view s = none) (hb : r.used + b.length + s.length ≤ r.cap) :
    (startS r s b).2 = 0 ∧ Okd (startS r s b).1 ∧ (∀ t, (startS r s b).1.view t = if t = currentL then some s else if t = freshL then none else if t = s then some b else r.view t) ∧ (startS r s b).1.used ≤ r.used + b.length + s.length ∧ (startS r s b).1.cap = r.cap := by
  obtain ⟨a1, a2, a3, a4, a5⟩ : (startA r s b).2 = 0 ∧ _ := lay_up h hs hv (by omega)
  obtain ⟨b1, b2, b3, b4, b5⟩ : (startB r s b).2 = 0 ∧ _ := old_up a2
  have hvf : (startB r s b).1.view freshL = none := by
    show (oldR (startA r s b).1).1.view freshL = none
    rw [b3, if_pos rfl]
  have hroom : (startB r s b).1.used + s.length ≤ (startB r s b).1.cap := by
    have e1 : (startB r s b).1.used ≤ (startA r s b).1.used := b4
    have e2 : (startA r s b).1.used = r.used + b.length := a4
    have e3 : (startB r s b).1.cap = (startA r s b).1.cap := b5
    have e4 : (startA r s b).1.cap = r.cap := a5
    omega
  obtain ⟨c1, c2, c3, c4, c5⟩ : (startC r s b).2 = 0 ∧ _ := lay_up b2 fresh_name hvf hroom
  obtain ⟨d1, d2, d3, d4, d5⟩ := c2.rename (b := currentL) (c := s) fresh_name cur_name (by rw [c3, if_pos rfl])
  have d1 : (startD r s b).2 = 0 := d1
  obtain ⟨e1, e2, e3, e4, e5⟩ := d2.syncDir
  have e1 : (startE r s b).2 = 0 := e1
  have e : startS r s b = startE r s b := by
    unfold startS
    rw [if_neg (by rw [a1]; simp), if_neg (by rw [b1]; simp), if_neg (by rw [c1]; simp), if_neg (by rw [d1]; simp)]
  rw [e]
  refine ⟨e1, e2, fun t => ?_, ?_, ?_⟩
  · have q1 : (startE r s b).1.view t = (startD r s b).1.view t := e3 t
    have q2 : (startD r s b).1.view t = if t = currentL then some s else if t = freshL then none else (startC r s b).1.view t := d3 t
    have q3 : (startC r s b).1.view t = if t = freshL then some s else (startB r s b).1.view t := c3 t
    have q4 : (startB r s b).1.view t = if t = freshL then none else (startA r s b).1.view t := b3 t
    have q5 : (startA r s b).1.view t = if t = s then some b else r.view t := a3 t
    rw [q1, q2]
    by_cases t1 : t = currentL
    · rw [if_pos t1, if_pos t1]
    · rw [if_neg t1, if_neg t1]
      by_cases t2 : t = freshL
      · rw [if_pos t2, if_pos t2]
      · rw [if_neg t2, if_neg t2, q3, if_neg t2, q4, if_neg t2, q5]
  · have q1 : (startE r s b).1.used = (startD r s b).1.used := e4
    have q2 : (startD r s b).1.used ≤ (startC r s b).1.used := d4
    have q3 : (startC r s b).1.used = (startB r s b).1.used + s.length := c4
    have q4 : (startB r s b).1.used ≤ (startA r s b).1.used := b4
    have q5 : (startA r s b).1.used = r.used + b.length := a4
    omega
  · have q1 : (startE r s b).1.cap = (startD r s b).1.cap := e5
    have q2 : (startD r s b).1.cap = (startC r s b).1.cap := d5
    have q3 : (startC r s b).1.cap = (startB r s b).1.cap := c5
    have q4 : (startB r s b).1.cap = (startA r s b).1.cap := b5
    have q5 : (startA r s b).1.cap = r.cap := a5
    omega
theorem start_there (h : Okd r) (hs : dName s = true) (hv : r.view s ≠ none) : startS r s b = (r, 3) := by
  have e : startA r s b = (r, 3) := lay_there h hs hv
  unfold startS
  rw [e]
  exact if_pos (show (3 : Int) ≠ 0 by decide)
end
theorem fname_dName {k : UInt8} {n : Nat} {l : List UInt8} (h : fname k n = l) (hl : l ≠ []) : dName l = true ∧ l.length ≤ 11 ∧ l ≠ currentL ∧ l ≠ freshL := by
  obtain ⟨h1, h2, h3, rfl⟩ := fname_form h hl
  have h4 := dec_len9 8 n (by omega)
  refine ⟨?_, by simp; omega, fun e => ?_, fun e => ?_⟩
  · unfold dName
    rw [Bool.and_eq_true, Bool.and_eq_true, decide_eq_true_eq, decide_eq_true_eq]
    refine ⟨⟨?_, by simp⟩, by simp; omega⟩
    rw [List.all_cons, List.all_cons, Bool.and_eq_true, Bool.and_eq_true, List.all_eq_true]
    refine ⟨?_, rfl, fun x hx => ?_⟩
    · unfold fkind at h1
      simp only [Bool.or_eq_true, beq_iff_eq] at h1
      rcases h1 with (rfl | rfl) | rfl <;> rfl
    · have := dec_digit n x hx
      unfold dByte
      simp only [Bool.or_eq_true, Bool.and_eq_true, decide_eq_true_eq, UInt8.le_iff_toNat_le]
      exact .inl (.inl (.inr this))
  · have := congrArg (fun l => l[1]?) e
    simp at this
  · have := congrArg (fun l => l[1]?) e
    simp at this
theorem readB_le {r : RD} (n : Nat) (hv : ∀ s c, r.view s = some c → c.length ≤ n) (s : List UInt8) : (r.readB s).length ≤ n := by
  unfold RD.readB
  split
  · rename_i hf
    obtain ⟨_, _, i, hi⟩ := findE_zero hf
    have h1 : r.num s = i := by unfold RD.num; rw [hi]; rfl
    rw [h1]
    exact hv s _ (by unfold RD.view; rw [hi]; rfl)
  · exact Nat.zero_le _
/-- the number of bytes that a version's edit takes -/
def Ver.bulk (v : Ver) : Nat := v.up.whole.bytes.length
/-- what Start makes of a disk that is up -/
structure Started (r : RD) (v : Ver) : Prop where
  err : (startR r v).2 = (v.up, v.next, 0)
  ok : Okd (startR r v).1
  view : ∀ t, (startR r v).1.view t = if t = currentL then some (fname 109 v.next.toNat) else if t = freshL then none else if t = fname 109 v.next.toNat then some (sealL v.up.whole.bytes) else r.view t
  used : (startR r v).1.used ≤ r.used + (8 + v.bulk) + 11
  cap : (startR r v).1.cap = r.cap
theorem up_ok {v : Ver} (h : v.ok = true) (hn : v.next ≤ 999999999) : v.up.ok = true := by
  obtain ⟨h1, h2, h3⟩ := Ver.ok_iff.1 h
  refine Ver.ok_iff.2 ⟨?_, ?_, h3⟩
  · unfold Ver.headOk Ver.up at *
    simp only [Bool.and_eq_true, Bool.not_eq_true', decide_eq_true_eq] at h1 ⊢
    obtain ⟨⟨⟨⟨a1, a2⟩, a3⟩, a4⟩, a5⟩ := h1
    exact ⟨⟨⟨⟨by omega, oddI_no.2 (by omega)⟩, a3⟩, by omega⟩, a5⟩
  · intro i hi
    have := h2 i hi
    unfold stepOk at *
    show (match v.tables[i]? with | none => true | some t => t.ok (v.next + 1) && _) = true
    cases ht : v.tables[i]? with
    | none => rfl
    | some t =>
      rw [ht] at this
      simp only [Bool.and_eq_true] at this ⊢
      refine ⟨?_, this.2⟩
      have h4 := this.1
      unfold Tbl.ok at h4 ⊢
      simp only [Bool.and_eq_true, decide_eq_true_eq] at h4 ⊢
      obtain ⟨⟨⟨⟨⟨⟨c1, c2⟩, c3⟩, c4⟩, c5⟩, c6⟩, c7⟩ := h4
      exact ⟨⟨⟨⟨⟨⟨c1, by omega⟩, c3⟩, c4⟩, c5⟩, c6⟩, c7⟩
theorem startR_ok {r : RD} {v : Ver} (h : Okd r) (hv : v.ok = true) (hn : fname 109 v.next.toNat ≠ []) (hx : r.view (fname 109 v.next.toNat) = none) (hb : r.used + (8 + v.bulk) + 11 ≤ r.cap) : Started r v := by
  obtain ⟨g1, g2, g3, g4⟩ := fname_dName rfl hn
  have hnx := (fname_form rfl hn).2.2.1
  have hr := Ver.whole_right (up_ok hv (by omega))
  unfold Ver.bulk at hb
  obtain ⟨e1, e2, e3, e4, e5⟩ := start_up (b := sealL v.up.whole.bytes) h g1 hx (by rw [sealL_len]; omega)
  have e : startR r v = ((startS r (fname 109 v.next.toNat) (sealL v.up.whole.bytes)).1, (v.up, v.next, 0)) := by
    unfold startR
    rw [if_neg (by rintro (h | h); rw [hv] at h; cases h; exact hn h), if_neg (by rw [hr]; simp), if_neg (by rw [e1]; simp)]
  refine ⟨by rw [e], by rw [e]; exact e2, by rw [e]; exact e3, ?_, by rw [e]; exact e5⟩
  rw [e]
  rw [sealL_len] at e4
  unfold Ver.bulk
  show (startS r (fname 109 v.next.toNat) (sealL v.up.whole.bytes)).1.used ≤ _
  omega
theorem startR_there {r : RD} {v : Ver} (h : Okd r) (hv : v.ok = true) (hn : fname 109 v.next.toNat ≠ []) (hx : r.view (fname 109 v.next.toNat) ≠ none) : startR r v = (r, (Ver.zero, 0, 3)) := by
  obtain ⟨g1, g2, g3, g4⟩ := fname_dName rfl hn
  have hnx := (fname_form rfl hn).2.2.1
  have hr := Ver.whole_right (up_ok hv (by omega))
  have e := start_there (b := sealL v.up.whole.bytes) h g1 hx
  unfold startR
  rw [if_neg (by rintro (h | h); rw [hv] at h; cases h; exact hn h), if_neg (by rw [hr]; simp), e]
  exact if_pos (show (3 : Int) ≠ 0 by decide)
theorem startR_bad {r : RD} {v : Ver} (h : v.ok = false ∨ fname 109 v.next.toNat = []) : startR r v = (r, (Ver.zero, 0, 9)) := by
  unfold startR
  rw [if_pos h]
theorem whole_fits {v : Ver} (h : v.ok = true) (hn : v.floor < 18446744073709551616 ∧ v.head < 18446744073709551616) (hl : v.tables.length ≤ 1000000) (ht : ∀ t ∈ v.tables, t.first.size ≤ 1000000 ∧ t.last.size ≤ 1000000) : v.whole.fits :=
  ⟨Ver.whole_right h, hn.1, hn.2, by show v.tables.length < _; omega, by show (0 : Nat) < _; omega, fun t ht' => by have := ht t ht'; omega⟩
/-- what counts on a disk whose current is that name, with these bytes -/
theorem loadR_of {r : RD} (h : Okd r) {n : Nat} {c : List UInt8} (hn : fname 109 n ≠ []) (hc : r.view currentL = some (fname 109 n)) (hm : r.view (fname 109 n) = some c) : loadR r = loadM n c := by
  obtain ⟨g1, g2, g3, g4⟩ := fname_dName rfl hn
  obtain ⟨f1, _⟩ := h.find cur_name hc
  obtain ⟨f2, _⟩ := h.find g1 hm
  unfold loadR
  rw [if_neg (by rw [f1]; simp), h.readB cur_name hc, fnum_of rfl hn, f2, h.readB g1 hm]
  show (if (109 : UInt8) ≠ 109 then _ else if (0 : Int) ≠ 0 then _ else loadM n c) = _
  rw [if_neg (by simp), if_neg (by simp)]
theorem loadR_none {r : RD} (h : Okd r) (hc : r.view currentL = none) : loadR r = (Ver.zero, 0, 4) := by
  obtain ⟨f1, _⟩ := h.miss cur_name hc
  unfold loadR
  rw [f1, if_pos (by decide)]
theorem Started.load {r : RD} {v : Ver} (h : Started r v) (hv : v.ok = true) (hn : fname 109 v.next.toNat ≠ []) (hf : v.up.whole.fits) (hl : v.bulk < 4294967296) : loadR (startR r v).1 = (v.up, v.next, 0) := by
  obtain ⟨g1, g2, g3, g4⟩ := fname_dName rfl hn
  obtain ⟨_, h1, h3, _⟩ := fname_form rfl hn
  rw [loadR_of h.ok hn (by rw [h.view, if_pos rfl]) (by rw [h.view, if_neg g3, if_neg g4, if_pos rfl])]
  unfold loadM
  rw [loadB_whole (up_ok hv (by omega)) hf hl]
  show (v.up, ((v.next.toNat : Nat) : Int), (0 : Int)) = _
  rw [show ((v.next.toNat : Nat) : Int) = v.next by omega]
/-- what a version says is one version's saying alone -/
theorem VerOwn.agg {B : Nat} {w : World} {v : Value} {x : Ver} (h : VerOwn B w v x) : ∃ p c, v = .agg #[.slice p x.tables.length c, .int .u64 x.floor, .int .u64 x.head, .int .i64 x.log, .int .i64 x.next] ∧ rkT.Own B w (.slice p x.tables.length c) x.tables := by
  obtain ⟨sv, rfl, ho⟩ := h
  obtain ⟨p, c, rfl⟩ := ho.slice
  exact ⟨p, c, rfl, ho⟩
end Go.Proofs.YtabcdodjkfknlaaGreatDoor
namespace Go.Proofs.YtabcdodjkfknlaaGreatDoor
open Go.RowKit
attribute [local go_sem] Oper.semAt_some
/-- whether two tables are the same -/
def sameTbl (t u : Tbl) : Bool := (t.num == u.num) && ((t.level == u.level) && ((t.size == u.size) && ((t.first.toList == u.first.toList) && (t.last.toList == u.last.toList))))
theorem bytes_eq {a b : ByteArray} (h : a.toList = b.toList) : a = b := by
  rw [Lib.toList_data, Lib.toList_data] at h
  exact bytes_ext h
theorem sameTbl_iff {t u : Tbl} : sameTbl t u = true ↔ t = u := by
  unfold sameTbl
  simp only [Bool.and_eq_true, beq_iff_eq]
  constructor
  · rintro ⟨h1, h2, h3, h4, h5⟩
    obtain ⟨a, b, c, d, e⟩ := t
    obtain ⟨a', b', c', d', e'⟩ := u
    simp only at h1 h2 h3 h4 h5
    rw [h1, h2, h3, bytes_eq h4, bytes_eq h5]
  · rintro rfl
    exact ⟨rfl, rfl, rfl, rfl, rfl⟩
set_option maxHeartbeats 2000000 in
theorem neq_tbl (t u : Tbl) (w : World) :
    (binOp .neq 76 (.agg #[.int .i64 t.num, .int .i64 t.level, .int .i64 t.size, .string t.first, .string t.last]) (.agg #[.int .i64 u.num, .int .i64 u.level, .int .i64 u.size, .string u.first, .string u.last])).run Tryz.prog w = .ok (.bool (!sameTbl t u)) w := by
  unfold sameTbl
  cases h0 : t.num == u.num
  · simp [go_sem, h0]
  cases h1 : t.level == u.level
  · simp [go_sem, h0, h1]
  cases h2 : t.size == u.size
  · simp [go_sem, h0, h1, h2]
  cases h3 : t.first.toList == u.first.toList
  · simp [go_sem, h0, h1, h2, h3]
  · by_cases h4 : t.last.toList = u.last.toList <;> simp [go_sem, h0, h1, h2, h3, h4]
/-- a Bool that tells whether something is so -/
def SameP (p : Prop) (w : World) (e : Ending) (w' : World) : Prop := ∃ b : Bool, e = .returned (.bool b) ∧ (b = true ↔ p) ∧ Below w.heap.size w w'
set_option maxHeartbeats 4000000 in
set_option maxRecDepth 100000 in
theorem sameTables_calls (p q : Option Addr) (c d : Nat) (l m : List Tbl) (w : World) (hA : rkT.At w p l) (hB : rkT.At w q m) (hl : l.length ≤ 1000000) (hm : m.length ≤ 1000000) :
    Calls Tryz.prog 63 #[.slice p l.length c, .slice q m.length d] w (SameP (l = m) w) := by
  obtain ⟨PP, hPP⟩ : ∃ PP, SameP (l = m) w = PP := ⟨_, rfl⟩
  rw [hPP]
  have hPP' := Lib.hid hPP
  clear hPP
  have hA' := Lib.hid hA
  have hB' := Lib.hid hB
  clear hA hB
  obtain ⟨L, hL⟩ : ∃ L, l.length = L := ⟨_, rfl⟩
  obtain ⟨M, hM⟩ : ∃ M, m.length = M := ⟨_, rfl⟩
  have hL' := Lib.hid hL
  have hM' := Lib.hid hM
  rw [hL] at hl ⊢
  rw [hM] at hm ⊢
  clear hL hM
  by_cases hn : L = M
  · subst hn
    go_enter Tryz.func63, Tryz.ntmps63
    go_wp2
    go_loopw [5, 13] (fun _ i wr => ∃ k : Nat, i = .int .i64 k ∧ k ≤ L ∧ l.take k = m.take k ∧ Below w.heap.size w wr) (fun _ i _ => L - (intOf i).toNat)
    case atStart => exact ⟨0, rfl, by omega, rfl, Below.refl _ _⟩
    case round =>
      obtain ⟨wo, rfl⟩ : ∃ wo : World, wo = wr := ⟨_, rfl⟩
      obtain ⟨k, rfl, hk, htk, hb⟩ := hrel
      have htk' := Lib.hid htk
      clear htk
      by_cases hlt : k < L
      · obtain ⟨t, ht⟩ : ∃ t, l[k]? = some t := ⟨_, List.getElem?_eq_getElem (by rw [hL'.out]; exact hlt)⟩
        obtain ⟨u, hu⟩ : ∃ u, m[k]? = some u := ⟨_, List.getElem?_eq_getElem (by rw [hM'.out]; exact hlt)⟩
        obtain ⟨a, b, rfl, hab, hbl, q0, q1, q2, q3, q4⟩ := tbl_at (hA'.out.below hb) ht
        obtain ⟨a', b', rfl, hab', hbl', r0, r1, r2, r3, r4⟩ := tbl_at (hB'.out.below hb) hu
        have hne := fun W => neq_tbl t u W
        have ht' := Lib.hid ht
        have hu' := Lib.hid hu
        have hb' := Lib.hid hb
        clear ht hu hb
        have n1 : 0 < L := by omega
        obtain ⟨S, hS⟩ : ∃ S, sameTbl t u = S := ⟨_, rfl⟩
        rw [hS] at hne
        have hS' := Lib.hid hS
        clear hS
        cases S with
        | true =>
          rw [Bool.not_true] at hne
          go_wp2_with fail
          go_quiet (fail)
          go_wp2
          refine ⟨⟨k + 1, by go_num, by omega, ?_, bdrewN hb'.out _⟩, by simp only [intOf]; omega⟩
          rw [List.take_add_one, List.take_add_one, ht'.out, hu'.out, htk'.out, sameTbl_iff.1 hS'.out]
        | false =>
          rw [Bool.not_false] at hne
          go_wp2_with fail
          go_quiet (fail)
          go_wp2
          rw [← hPP'.out]
          refine ⟨false, rfl, ⟨fun h => (by cases h), ?_⟩, bdrewN hb'.out _⟩
          rintro rfl
          have h1 := ht'.out.symm.trans hu'.out
          obtain rfl := Option.some.inj h1
          rw [sameTbl_iff.2 rfl] at hS'
          exact absurd hS'.out (by decide)
      · obtain rfl : k = L := by omega
        have hb' := Lib.hid hb
        clear hb
        go_wp2
        rw [← hPP'.out]
        refine ⟨true, rfl, ⟨fun _ => ?_, fun _ => rfl⟩, hb'.out⟩
        have := htk'.out
        rwa [List.take_of_length_le (by rw [hL'.out]; exact Nat.le_refl _), List.take_of_length_le (by rw [hM'.out]; exact Nat.le_refl _)] at this
  · have hne : ((L : Int) != (M : Int)) = true := by simp; omega
    have hne2 : (L != M) = true := by simp; omega
    have hne3 : (L == M) = false := by simp; omega
    have hn' := Lib.hid hn
    clear hn
    go_enter Tryz.func63, Tryz.ntmps63
    go_wp2
    rw [← hPP'.out]
    exact ⟨false, rfl, by constructor; (intro h; cases h); (rintro rfl; exact absurd (hL'.out.symm.trans hM'.out) hn'.out), Below.refl _ _⟩
end Go.Proofs.YtabcdodjkfknlaaGreatDoor
namespace Go.Proofs.YtabcdodjkfknlaaGreatDoor
open Go.RowKit
attribute [local go_sem] Oper.semAt_some
set_option maxHeartbeats 4000000 in
set_option maxRecDepth 100000 in
theorem same21_calls (va vb : Value) (x y : Ver) (w : World) (ha : VerIs w va x) (hb : VerIs w vb y) :
    Calls Tryz.prog 23 #[va, vb] w (SameP (x = y) w) := by
  obtain ⟨⟨p, c, rfl, hA⟩, hal, _, _⟩ := ha
  obtain ⟨⟨q, d, rfl, hB⟩, hbl, _, _⟩ := hb
  obtain ⟨W2, hW2⟩ : ∃ W2, (w.alloc (.cells #[.slice p x.tables.length c, .int .u64 x.floor, .int .u64 x.head, .int .i64 x.log, .int .i64 x.next] 30)).alloc (.cells #[.slice q y.tables.length d, .int .u64 y.floor, .int .u64 y.head, .int .i64 y.log, .int .i64 y.next] 30) = W2 := ⟨_, rfl⟩
  have b1 : Blk W2 w.heap.size 30 #[.slice p x.tables.length c, .int .u64 x.floor, .int .u64 x.head, .int .i64 x.log, .int .i64 x.next] := by rw [← hW2]; exact (Blk.new w _ _).alloc _
  have b2 : Blk W2 (w.heap.size + 1) 30 #[.slice q y.tables.length d, .int .u64 y.floor, .int .u64 y.head, .int .i64 y.log, .int .i64 y.next] := by
    rw [← hW2]
    have := Blk.new (w.alloc (.cells #[.slice p x.tables.length c, .int .u64 x.floor, .int .u64 x.head, .int .i64 x.log, .int .i64 x.next] 30)) 30 #[.slice q y.tables.length d, .int .u64 y.floor, .int .u64 y.head, .int .i64 y.log, .int .i64 y.next]
    rw [World.size_alloc] at this; exact this
  have hB2 : Below w.heap.size w W2 := by rw [← hW2]; exact ((Below.refl _ w).alloc (Nat.le_refl _) _).alloc (by simp) _
  have c1 := b1.cell
  have c2 := b2.cell
  have hS := Lib.hid (sameTables_calls p q c d x.tables y.tables W2 (hA.below hB2) (hB.below hB2) hal hbl)
  have b1' := Lib.hid b1
  have b2' := Lib.hid b2
  have hB2' := Lib.hid hB2
  obtain ⟨L, hL⟩ : ∃ L, x.tables.length = L := ⟨_, rfl⟩
  obtain ⟨M, hM⟩ : ∃ M, y.tables.length = M := ⟨_, rfl⟩
  rw [hL, hM] at hS
  rw [hL] at c1 b1'
  rw [hM] at c2 b2'
  rw [hL, hM] at hW2 ⊢
  obtain ⟨PP, hPP⟩ : ∃ PP, SameP (x = y) w = PP := ⟨_, rfl⟩
  rw [hPP]
  have hiff : x = y ↔ x.tables = y.tables ∧ (x.floor : Int) = (y.floor : Int) ∧ (x.head : Int) = (y.head : Int) ∧ x.log = y.log ∧ x.next = y.next := by
    constructor
    · rintro rfl; exact ⟨rfl, rfl, rfl, rfl, rfl⟩
    · rintro ⟨h1, h2, h3, h4, h5⟩
      obtain ⟨_, _, _, _, _⟩ := x
      obtain ⟨_, _, _, _, _⟩ := y
      simp only at h1 h2 h3 h4 h5
      rw [h1, h4, h5, Int.ofNat.inj h2, Int.ofNat.inj h3]
  have hPP' : ∀ b : Bool, ∀ w', Below w.heap.size w w' → (b = true ↔ x.tables = y.tables ∧ (x.floor : Int) = (y.floor : Int) ∧ (x.head : Int) = (y.head : Int) ∧ x.log = y.log ∧ x.next = y.next) → PP (.returned (.bool b)) w' := fun b w' hb h => by
    rw [← hPP]; exact ⟨b, rfl, h.trans hiff.symm, hb⟩
  have hPP'' := Lib.hid hPP'
  obtain ⟨T, hT⟩ : ∃ T, (x.tables = y.tables) = T := ⟨_, rfl⟩
  rw [hT] at hS hPP''
  clear hL hM hPP hPP' hiff hT b1 b2 hB2 hA hB hal hbl
  obtain ⟨xf, hxf⟩ : ∃ k : Int, (x.floor : Int) = k := ⟨_, rfl⟩
  obtain ⟨yf, hyf⟩ : ∃ k : Int, (y.floor : Int) = k := ⟨_, rfl⟩
  obtain ⟨xh, hxh⟩ : ∃ k : Int, (x.head : Int) = k := ⟨_, rfl⟩
  obtain ⟨yh, hyh⟩ : ∃ k : Int, (y.head : Int) = k := ⟨_, rfl⟩
  rw [hxf, hxh] at c1 b1' hW2 hPP'' ⊢
  rw [hyf, hyh] at c2 b2' hW2 hPP'' ⊢
  clear hxf hyf hxh hyh
  generalize x.log = xl at *
  generalize x.next = xn at *
  generalize y.log = yl at *
  generalize y.next = yn at *
  by_cases e1 : xf = yf
  · subst e1
    by_cases e2 : xh = yh
    · subst e2
      by_cases e3 : xl = yl
      · subst e3
        by_cases e4 : xn = yn
        · subst e4
          go_enter Tryz.func23, Tryz.ntmps23
          go_wp2_with fail
          refine hS.out.mono ?_
          rintro e w3 ⟨b, rfl, hbT, hb3⟩
          have b13 := (b1'.out.below hb3 b1'.out.lt).cell
          have b23 := (b2'.out.below hb3 b2'.out.lt).cell
          have hB3 := Lib.hid (hB2'.out.trans (hb3.mono hB2'.out.size))
          have hbT' := Lib.hid hbT
          clear hb3 hbT c1 c2
          cases b
          · go_wp2_with fail
            exact hPP''.out _ _ hB3.out (by have := hbT'.out; simp at this; simp [this])
          · go_wp2_with fail
            exact hPP''.out _ _ hB3.out (by have := hbT'.out; simp at this; simp [this])
        · have t4 : (xn == yn) = false := by simpa using e4
          go_enter Tryz.func23, Tryz.ntmps23
          go_wp2_with fail
          refine hS.out.mono ?_
          rintro e w3 ⟨b, rfl, hbT, hb3⟩
          have b13 := (b1'.out.below hb3 b1'.out.lt).cell
          have b23 := (b2'.out.below hb3 b2'.out.lt).cell
          have hB3 := Lib.hid (hB2'.out.trans (hb3.mono hB2'.out.size))
          clear hb3 hbT c1 c2
          have e4' := Lib.hid e4
          clear e4
          cases b <;> (
            go_wp2_with fail
            exact hPP''.out _ _ hB3.out (by simp [e4'.out]))
      · have t3 : (xl == yl) = false := by simpa using e3
        go_enter Tryz.func23, Tryz.ntmps23
        go_wp2_with fail
        refine hS.out.mono ?_
        rintro e w3 ⟨b, rfl, hbT, hb3⟩
        have b13 := (b1'.out.below hb3 b1'.out.lt).cell
        have b23 := (b2'.out.below hb3 b2'.out.lt).cell
        have hB3 := Lib.hid (hB2'.out.trans (hb3.mono hB2'.out.size))
        clear hb3 hbT c1 c2
        have e3' := Lib.hid e3
        clear e3
        cases b <;> (
          go_wp2_with fail
          exact hPP''.out _ _ hB3.out (by simp [e3'.out]))
    · have t2 : (xh == yh) = false := by simpa using e2
      go_enter Tryz.func23, Tryz.ntmps23
      go_wp2_with fail
      refine hS.out.mono ?_
      rintro e w3 ⟨b, rfl, hbT, hb3⟩
      have b13 := (b1'.out.below hb3 b1'.out.lt).cell
      have b23 := (b2'.out.below hb3 b2'.out.lt).cell
      have hB3 := Lib.hid (hB2'.out.trans (hb3.mono hB2'.out.size))
      clear hb3 hbT c1 c2
      have e2' := Lib.hid e2
      clear e2
      cases b <;> (
        go_wp2_with fail
        exact hPP''.out _ _ hB3.out (by simp [e2'.out]))
  · have t1 : (xf == yf) = false := by simpa using e1
    go_enter Tryz.func23, Tryz.ntmps23
    go_wp2_with fail
    refine hS.out.mono ?_
    rintro e w3 ⟨b, rfl, hbT, hb3⟩
    have b13 := (b1'.out.below hb3 b1'.out.lt).cell
    have b23 := (b2'.out.below hb3 b2'.out.lt).cell
    have hB3 := Lib.hid (hB2'.out.trans (hb3.mono hB2'.out.size))
    clear hb3 hbT c1 c2
    have e1' := Lib.hid e1
    clear e1
    cases b <;> (
      go_wp2_with fail
      exact hPP''.out _ _ hB3.out (by simp [e1'.out]))
end Go.Proofs.YtabcdodjkfknlaaGreatDoor
