/- The law DiskKeeps in plain words: what is safe stays. -/
import Derived.Test.YtgclancneohpbaaDL5
namespace Go.Proofs.Ytgclancneohpbaa
def kept : List UInt8 := [107, 101, 112, 116]
/-- the file kept, its bytes b and its name are safe; nothing was done to its name since -/
structure KInv (r : RD) (m : Nat) (b : List UInt8) : Prop where
  ok : RDok r m
  safe : rfind r.safe kept = some 0
  dir : rfind r.dir kept = some 0
  acts : ∀ a ∈ r.acts, a.frm ≠ kept ∧ a.to ≠ kept
  data : b <+: (r.got 0).data
  len : b.length ≤ (r.got 0).safe
theorem rdone_kept {d : RDir} (h : RSorted d) {a : RAct} (h1 : a.frm ≠ kept) (h2 : a.to ≠ kept) : rfind (rdone d a) kept = rfind d kept := by
  have e1 : rfind (if a.frm = [] then d else rset d a.frm none) kept = rfind d kept := by
    split
    · rfl
    · rw [rfind_set h, if_neg (Ne.symm h1)]
  have hs : RSorted (if a.frm = [] then d else rset d a.frm none) := by
    split
    · exact h
    · exact rset_sorted h _ _
  unfold rdone
  split
  · exact e1
  · rw [rfind_set hs, if_neg (Ne.symm h2)]; exact e1
theorem foldl_kept : ∀ (l : List RAct) {d : RDir}, RSorted d → (∀ a ∈ l, a.frm ≠ kept ∧ a.to ≠ kept) → rfind (l.foldl rdone d) kept = rfind d kept
  | [], d, _, _ => rfl
  | a :: l, d, h, hl => by
    rw [List.foldl_cons, foldl_kept l (rdone_sorted h a) (fun b hb => hl b (List.mem_cons_of_mem _ hb)), rdone_kept h (hl a List.mem_cons_self).1 (hl a List.mem_cons_self).2]
section
variable {r : RD} {m : Nat} {b : List UInt8}
theorem got_of (r r' : RD) (h : r'.files = r.files) (i : Nat) : r'.got i = r.got i := by unfold RD.got; rw [h]
theorem KInv.lt (h : KInv r m b) : 0 < r.files.length := h.ok.find h.dir
theorem KInv.more (h : KInv r m b) {m' : Nat} (hm : m ≤ m') : KInv r m' b := ⟨h.ok.more hm, h.safe, h.dir, h.acts, h.data, h.len⟩
theorem KInv.burn (h : KInv r m b) : KInv r.burn m b := by
  obtain ⟨e1, e2, e3, e4, e5⟩ := burn_facts r
  exact ⟨h.ok.burn, by rw [e4]; exact h.safe, by rw [e3]; exact h.dir, by rw [e5]; exact h.acts, by rw [got_of r r.burn e2]; exact h.data, by rw [got_of r r.burn e2]; exact h.len⟩
theorem KInv.act (h : KInv r m b) {a : RAct} (h1 : a.frm ≠ kept) (h2 : a.to ≠ kept) (ha : a.to ≠ [] → a.file < r.files.length) : KInv (r.act a) (m + 1) b := by
  have hb := h.burn
  refine ⟨h.ok.act ha, hb.safe, ?_, fun a' ha' => ?_, hb.data, hb.len⟩
  · show rfind (rdone r.burn.dir a) kept = some 0
    rw [rdone_kept hb.ok.sd h1 h2]; exact hb.dir
  · rcases List.mem_append.1 ha' with h' | h'
    · exact hb.acts a' h'
    · obtain rfl := List.mem_singleton.1 h'; exact ⟨h1, h2⟩
theorem KInv.files (h : KInv r m b) {F : List File} {m' : Nat} (hok : RDok { r with files := F } m') (hd : b <+: (F.getD 0 ⟨[], 0⟩).data) (hl : b.length ≤ (F.getD 0 ⟨[], 0⟩).safe) : KInv { r with files := F } m' b :=
  ⟨hok, h.safe, h.dir, h.acts, hd, hl⟩
theorem set_got {F : List File} {x : File} {i : Nat} (hi : 0 < F.length) : (F.set i x).getD 0 ⟨[], 0⟩ = if i = 0 then x else F.getD 0 ⟨[], 0⟩ := by
  rw [List.getD_eq_getElem?_getD]
  split
  · rename_i e; subst e; rw [List.getElem?_set_self hi]; rfl
  · rename_i e; rw [List.getElem?_set_ne e, List.getD_eq_getElem?_getD]
theorem KInv.create (h : KInv r m b) {s : List UInt8} (hs : s ≠ kept) : KInv (r.create s) (m + 1) b := by
  have hok := h.ok.create s
  unfold RD.create at hok ⊢
  split
  · rename_i hf
    rw [if_pos hf] at hok
    split
    · rename_i hbn
      rw [if_pos hbn] at hok
      have hb := h.burn
      obtain ⟨e1, e2, e3, e4, e5⟩ := burn_facts r
      have hlt := h.lt
      have hg : (r.files ++ [(⟨[], 0⟩ : File)]).getD 0 ⟨[], 0⟩ = r.got 0 := by
        unfold RD.got
        rw [List.getD_eq_getElem?_getD, List.getElem?_append_left hlt, List.getD_eq_getElem?_getD]
      refine ⟨hok, hb.safe, ?_, fun a' ha' => ?_, ?_, ?_⟩
      · show rfind (rdone r.burn.dir ⟨[], s, r.files.length⟩) kept = some 0
        rw [rdone_kept hb.ok.sd (fun e => (by cases e)) hs]; exact hb.dir
      · have ha2 : a' ∈ r.burn.acts ++ [(⟨[], s, r.files.length⟩ : RAct)] := ha'
        rcases List.mem_append.1 ha2 with h' | h'
        · exact hb.acts a' h'
        · obtain rfl := List.mem_singleton.1 h'
          exact ⟨fun e => (by cases e), hs⟩
      · show b <+: ((r.files ++ [(⟨[], 0⟩ : File)]).getD 0 ⟨[], 0⟩).data
        rw [hg]; exact h.data
      · show b.length ≤ ((r.files ++ [(⟨[], 0⟩ : File)]).getD 0 ⟨[], 0⟩).safe
        rw [hg]; exact h.len
    · exact h.burn.more (Nat.le_succ m)
  · exact h.more (Nat.le_succ m)
theorem KInv.append (h : KInv r m b) (s : List UInt8) {c : List UInt8} (hc : c.length ≤ 65536) : KInv (r.append s c) (m + 1) b := by
  have hok := h.ok.append s hc
  unfold RD.append at hok ⊢
  split
  · rename_i hf
    rw [if_pos hf] at hok
    split
    · exact h.more (Nat.le_succ m)
    · rename_i hcap
      rw [if_neg hcap] at hok
      split
      · rename_i hbn
        rw [if_pos hbn] at hok
        have hg := set_got (F := r.files) (x := ⟨(r.got (r.num s)).data ++ c, (r.got (r.num s)).safe⟩) (i := r.num s) h.lt
        refine h.burn.files hok ?_ ?_
        · rw [hg]
          split
          · rename_i e; rw [e]; exact h.data.trans (List.prefix_append _ _)
          · exact h.data
        · rw [hg]
          split
          · rename_i e; rw [e]; exact h.len
          · exact h.len
      · exact h.burn.more (Nat.le_succ m)
  · exact h.more (Nat.le_succ m)
theorem KInv.sync (h : KInv r m b) (s : List UInt8) : KInv (r.sync s) m b := by
  have hok := h.ok.sync s
  unfold RD.sync at hok ⊢
  split
  · rename_i hf
    rw [if_pos hf] at hok
    split
    · rename_i hbn
      rw [if_pos hbn] at hok
      have hg := set_got (F := r.files) (x := ⟨(r.got (r.num s)).data, (r.got (r.num s)).data.length⟩) (i := r.num s) h.lt
      refine h.burn.files hok ?_ ?_
      · rw [hg]
        split
        · rename_i e; rw [e]; exact h.data
        · exact h.data
      · rw [hg]
        split
        · rename_i e; rw [e]; exact h.data.length_le
        · exact h.len
    · exact h.burn
  · exact h
theorem KInv.syncDir (h : KInv r m b) : KInv r.syncDir m b := by
  have hok := h.ok.syncDir
  unfold RD.syncDir at hok ⊢
  split
  · exact h
  · rename_i hd
    rw [if_neg hd] at hok
    split
    · rename_i hbn
      rw [if_pos hbn] at hok
      exact ⟨hok, h.burn.dir, h.burn.dir, fun a ha => (by cases ha), h.burn.data, h.burn.len⟩
    · exact h.burn
theorem KInv.rename (h : KInv r m b) {s t : List UInt8} (hs : s ≠ kept) (ht : t ≠ kept) : KInv (r.rename s t) (m + 1) b := by
  unfold RD.rename
  split
  · split
    · rename_i hf
      split
      · obtain ⟨_, _, i, hi⟩ := findE_zero hf
        exact h.act hs ht (fun _ => by show r.num s < _; unfold RD.num; rw [hi]; exact h.ok.find hi)
      · exact h.burn.more (Nat.le_succ m)
    · exact h.more (Nat.le_succ m)
  · exact h.more (Nat.le_succ m)
theorem KInv.remove (h : KInv r m b) {s : List UInt8} (hs : s ≠ kept) : KInv (r.remove s) (m + 1) b := by
  unfold RD.remove
  split
  · split
    · exact h.act hs (fun e => (by cases e)) (fun e => absurd rfl e)
    · exact h.burn.more (Nat.le_succ m)
  · exact h.more (Nat.le_succ m)
theorem KInv.fused (h : KInv r m b) {n : Int} (hn : n < 9223372036854775808) : KInv (r.fused n) m b := ⟨h.ok.fused hn, h.safe, h.dir, h.acts, h.data, h.len⟩
/-- an act that may be done to the disk -/
structure LAct.spares (x : LAct) : Prop where
  a : x.a.data.toList = kept → x.kind % 9 = 1 ∨ x.kind % 9 = 3
  b : x.b.data.toList ≠ kept
  kind : x.kind % 9 ≠ 8
  len : x.bytes.length ≤ 65536
  n : x.n < 9223372036854775808
theorem KInv.step (h : KInv r m b) {x : LAct} (hx : x.spares) : KInv (r.step x) (m + 1) b := by
  have hne : x.kind % 9 ≠ 1 → x.kind % 9 ≠ 3 → x.a.data.toList ≠ kept := fun h1 h3 e => (hx.a e).elim h1 h3
  have hr : x.kind % 9 < 9 := Nat.mod_lt _ (by decide)
  have hc : x.kind % 9 = 0 ∨ x.kind % 9 = 1 ∨ x.kind % 9 = 2 ∨ x.kind % 9 = 3 ∨ x.kind % 9 = 4 ∨ x.kind % 9 = 5 ∨ x.kind % 9 = 6 ∨ x.kind % 9 = 7 := by have := hx.kind; omega
  unfold RD.step
  rcases hc with e | e | e | e | e | e | e | e
  all_goals rw [e] at hne ⊢
  · exact h.create (hne (by decide) (by decide))
  · exact h.append _ hx.len
  · exact h.more (Nat.le_succ m)
  · exact (h.sync _).more (Nat.le_succ m)
  · exact h.syncDir.more (Nat.le_succ m)
  · exact h.rename (hne (by decide) (by decide)) hx.b
  · exact h.remove (hne (by decide) (by decide))
  · exact (h.fused hx.n).more (Nat.le_succ m)
/-- bytes that are safe stay in a crash -/
def KF (F : List File) (b : List UInt8) : Prop := 0 < F.length ∧ b <+: (F.getD 0 ⟨[], 0⟩).data ∧ b.length ≤ (F.getD 0 ⟨[], 0⟩).safe ∧ (F.getD 0 ⟨[], 0⟩).safe ≤ (F.getD 0 ⟨[], 0⟩).data.length
theorem KF.cut {F : List File} (h : KF F b) (keep : List UInt8) (i : Nat) : KF (rcut F keep i) b := by
  obtain ⟨h1, h2, h3, h4⟩ := h
  refine ⟨by rw [rcut_length]; exact h1, ?_⟩
  unfold rcut
  rw [set_got h1]
  split
  · rename_i e
    subst e
    have hn := rcutN_le (keep := keep) h4
    have hs : (F.getD 0 ⟨[], 0⟩).safe ≤ rcutN F keep 0 := by unfold rcutN; omega
    refine ⟨?_, by show b.length ≤ rcutN F keep 0; omega, by show rcutN F keep 0 ≤ (List.take _ _).length; rw [List.length_take]; omega⟩
    show b <+: List.take (rcutN F keep 0) _
    exact (List.prefix_take_iff).2 ⟨h2, by omega⟩
  · exact ⟨h2, h3, h4⟩
theorem KF.cuts {F : List File} (h : KF F b) (keep : List UInt8) (l : List Nat) : KF (rcuts F keep l) b := by
  induction l generalizing F keep with
  | nil => exact h
  | cons i l ih => exact ih (h.cut keep i) keep.tail
theorem KInv.crash (h : KInv r m b) (keep : List UInt8) : (r.crash keep).findE kept = 0 ∧ b <+: (r.crash keep).readB kept := by
  have hd : rfind (r.crash keep).dir kept = some 0 := by
    show rfind ((r.acts.take (nextN keep r.acts.length)).foldl rdone r.safe) kept = some 0
    rw [foldl_kept _ h.ok.ss (fun a ha => h.acts a (List.mem_of_mem_take ha))]
    exact h.safe
  have hm : (r.crash keep).may (dName kept) = 0 := by kernel_rfl
  have hf : (r.crash keep).findE kept = 0 := by
    unfold RD.findE
    rw [if_pos hm, hd]; rfl
  refine ⟨hf, ?_⟩
  have hk : KF r.files b := ⟨h.lt, h.data, h.len, (h.ok.got 0).1⟩
  have hk2 := hk.cuts keep.tail (rnums (r.kept keep))
  unfold RD.readB
  rw [if_pos hf]
  have hn : (r.crash keep).num kept = 0 := by unfold RD.num; rw [hd]; rfl
  rw [hn]
  exact hk2.2.1
end
def k0 : RD := ⟨16777216, false, -1, [], [], [], []⟩
def k1 : RD := ⟨16777216, false, -1, [⟨[], 0⟩], [(kept, 0)], [], [⟨[], kept, 0⟩]⟩
def k2 (b : List UInt8) : RD := ⟨16777216, false, -1, [⟨b, 0⟩], [(kept, 0)], [], [⟨[], kept, 0⟩]⟩
def k3 (b : List UInt8) : RD := ⟨16777216, false, -1, [⟨b, b.length⟩], [(kept, 0)], [], [⟨[], kept, 0⟩]⟩
def k4 (b : List UInt8) : RD := ⟨16777216, false, -1, [⟨b, b.length⟩], [(kept, 0)], [(kept, 0)], []⟩
theorem k_new : RD.new 16777216 = k0 := by kernel_rfl
theorem k_create : k0.createE kept = 0 ∧ k0.create kept = k1 := ⟨by kernel_rfl, by kernel_rfl⟩
theorem k_append {b : List UInt8} (hb : b.length ≤ 300) : k1.appE kept b.length = 0 ∧ k1.append kept b = k2 b := by
  have h0 : k1.findE kept = 0 := by kernel_rfl
  have hu : k1.used = 0 := by kernel_rfl
  have hc : ¬ k1.cap < k1.used + b.length := by rw [hu]; show ¬ 16777216 < _; omega
  constructor
  · unfold RD.appE
    rw [if_pos h0, if_neg hc]; rfl
  · unfold RD.append
    rw [if_pos h0, if_neg hc]; rfl
theorem k_sync (b : List UInt8) : (k2 b).syncE kept = 0 ∧ (k2 b).sync kept = k3 b := ⟨by kernel_rfl, by kernel_rfl⟩
theorem k_syncDir (b : List UInt8) : (k3 b).syncDirE = 0 ∧ (k3 b).syncDir = k4 b := ⟨by kernel_rfl, by kernel_rfl⟩
theorem k_inv {b : List UInt8} (hb : b.length ≤ 300) : KInv (k4 b) 2 b := by
  refine ⟨⟨Nat.le_refl _, ⟨by show (-1 : Int) ≤ -1; omega, by show (-1 : Int) < _; omega⟩, by show (1 : Nat) ≤ 2; decide, by show (1 : Nat) ≤ 2; decide, by show (1 : Nat) + 0 ≤ 2; decide, List.pairwise_singleton _ _, List.pairwise_singleton _ _, fun n hn => ?_, fun n hn => ?_, fun a ha => (by cases ha), fun x hx => ?_⟩, by kernel_rfl, by kernel_rfl, fun a ha => (by cases ha), List.prefix_refl _, Nat.le_refl _⟩
  · obtain rfl := List.mem_singleton.1 hn; show (0 : Nat) < 1; decide
  · obtain rfl := List.mem_singleton.1 hn; show (0 : Nat) < 1; decide
  · obtain rfl := List.mem_singleton.1 hx; exact ⟨Nat.le_refl _, by show b.length ≤ _; omega⟩
end Go.Proofs.Ytgclancneohpbaa
