/- Fuse and Crash on a disk with its own blocks. The document's disk, in plain words: what stays true of it, whatever is done. -/
import Derived.Test.YtabcdodjkfknlaaGreatDoorPT03
import Derived.Test.YtabcdodjkfknlaaGreatDoorPN09
namespace Go.Proofs.YtabcdodjkfknlaaGreatDoor
open Go.RowKit Go.Maps Go.Shelf
section
variable {w w1 w' : World} {B D m : Nat} {O : Nat → Prop} {r : RD}
theorem fuse_do (h : DAt w B D O r m) (n : Int) (hn : n < 9223372036854775808) : Calls Tryz.prog 26 #[.pointer (some ⟨D, 0, none⟩), .int .i64 n] w fun e w' => e = .returned (.tuple #[]) ∧ DGo w B D O (r.fused n) m w' := by
  obtain ⟨⟨k, bl, h0, h1, h2, h3⟩, h4⟩ := h
  exact (fuse_calls k _ D O n w h1).mono fun _ _ ⟨e, hd, hk⟩ => ⟨e, O, ⟨⟨_, bl, Dk.fused_ok h0 hn, hd, h2.fuse n, h3⟩, Nat.le_trans h4 hk.size⟩, fun _ h => .inl h, hk⟩
theorem crash_do (h : DAt w B D O r m) {v : Value} {keep : List UInt8} (hv : Bytes w v keep) (hn : ∀ g, v.ownBlock = some g → keep ≠ [] → ¬ O g ∧ g < w.heap.size) (hm : m ≤ 4000) (hl : keep.length ≤ 1000000) :
    Calls Tryz.prog 27 #[.pointer (some ⟨D, 0, none⟩), v] w fun e w' => e = .returned (.tuple #[]) ∧ DGo w B D O (r.crash keep) m w' := by
  obtain ⟨⟨k, bl, h0, h1, h2, h3⟩, h4⟩ := h
  exact (crash_calls k _ D O v keep w h1 h0 (by omega) h4 hv hn hl).mono fun _ _ ⟨e, ns, hN, hl', hg⟩ => ⟨e, .of hg h4 (Dk.crashed_ok h0 (by omega) keep ns hl' h1.sound.1) h3 ⟨bl, h2.crash h1.sound.1 hN⟩⟩
end
end Go.Proofs.YtabcdodjkfknlaaGreatDoor
namespace Go.Proofs.YtabcdodjkfknlaaGreatDoor
/-- at most m things were done to it -/
structure RDok (r : RD) (m : Nat) : Prop where
  cap : r.cap ≤ 16777216
  left : -1 ≤ r.left ∧ r.left < 9223372036854775808
  files : r.files.length ≤ m
  dir : r.dir.length ≤ m
  sacts : r.safe.length + r.acts.length ≤ m
  sd : RSorted r.dir
  ss : RSorted r.safe
  nd : ∀ n ∈ r.dir, n.2 < r.files.length
  ns : ∀ n ∈ r.safe, n.2 < r.files.length
  na : ∀ a ∈ r.acts, a.to ≠ [] → a.file < r.files.length
  small : ∀ x ∈ r.files, x.safe ≤ x.data.length ∧ x.data.length ≤ m * 65536
theorem rset_len {d : RDir} (h : RSorted d) (s : List UInt8) (f : Option Nat) : (rset d s f).length ≤ d.length + 1 := by
  have e := congrArg List.length (rsplit h s)
  rw [List.length_append, List.length_append] at e
  cases f with
  | none => show (rput s 0 true d).length ≤ _; rw [rput_true_eq h, List.length_append]; omega
  | some i => show (rput s i false d).length ≤ _; rw [rput_false_eq h, List.length_append, List.length_cons]; omega
theorem rset_len_none {d : RDir} (h : RSorted d) (s : List UInt8) : (rset d s none).length ≤ d.length := by
  have e := congrArg List.length (rsplit h s)
  rw [List.length_append, List.length_append] at e
  show (rput s 0 true d).length ≤ _; rw [rput_true_eq h, List.length_append]; omega
theorem rdone_len {d : RDir} (h : RSorted d) (a : RAct) : (rdone d a).length ≤ d.length + 1 := by
  have e1 := rset_len_none h a.frm
  have e2 := rset_len h a.to (some a.file)
  have e3 := rset_len (rset_sorted h a.frm none) a.to (some a.file)
  unfold rdone
  split <;> split <;> omega
theorem rdone_nums {d : RDir} (h : RSorted d) {a : RAct} {k : Nat} (hd : ∀ n ∈ d, n.2 < k) (ha : a.to ≠ [] → a.file < k) : ∀ n ∈ rdone d a, n.2 < k := by
  have h1 : ∀ n ∈ (if a.frm = [] then d else rset d a.frm none), n.2 < k := by
    intro n hn
    split at hn
    · exact hd n hn
    · rcases rset_mem h hn with h' | ⟨_, h'⟩
      · exact hd n h'
      · cases h'
  have hs : RSorted (if a.frm = [] then d else rset d a.frm none) := by
    split
    · exact h
    · exact rset_sorted h _ _
  intro n hn
  unfold rdone at hn
  split at hn
  · exact h1 n hn
  · rename_i hto
    rcases rset_mem hs hn with h' | ⟨_, h'⟩
    · exact h1 n h'
    · have := Option.some.inj h'; have := ha hto; omega
theorem burn_facts (r : RD) : r.burn.cap = r.cap ∧ r.burn.files = r.files ∧ r.burn.dir = r.dir ∧ r.burn.safe = r.safe ∧ r.burn.acts = r.acts := by
  unfold RD.burn; split <;> (try split) <;> exact ⟨rfl, rfl, rfl, rfl, rfl⟩
section
variable {r : RD} {m : Nat}
theorem RDok.more (h : RDok r m) {m' : Nat} (hm : m ≤ m') : RDok r m' :=
  ⟨h.cap, h.left, Nat.le_trans h.files hm, Nat.le_trans h.dir hm, Nat.le_trans h.sacts hm, h.sd, h.ss, h.nd, h.ns, h.na, fun x hx => ⟨(h.small x hx).1, Nat.le_trans (h.small x hx).2 (Nat.mul_le_mul_right _ hm)⟩⟩
theorem RDok.burn (h : RDok r m) : RDok r.burn m := by
  have hl := h.left
  unfold RD.burn
  split
  · exact ⟨h.cap, h.left, h.files, h.dir, h.sacts, h.sd, h.ss, h.nd, h.ns, h.na, h.small⟩
  · split
    · exact ⟨h.cap, ⟨by show -1 ≤ r.left - 1; omega, by show r.left - 1 < _; omega⟩, h.files, h.dir, h.sacts, h.sd, h.ss, h.nd, h.ns, h.na, h.small⟩
    · exact h
theorem RDok.act (h : RDok r m) {a : RAct} (ha : a.to ≠ [] → a.file < r.files.length) : RDok (r.act a) (m + 1) := by
  have hb := h.burn
  obtain ⟨e1, e2, e3, e4, e5⟩ := burn_facts r
  refine ⟨hb.cap, hb.left, Nat.le_succ_of_le hb.files, ?_, ?_, rdone_sorted hb.sd _, hb.ss, rdone_nums hb.sd hb.nd (by show _ → a.file < r.burn.files.length; rw [e2]; exact ha), hb.ns, fun a' ha' => ?_, fun x hx => ⟨(hb.small x hx).1, Nat.le_trans (hb.small x hx).2 (Nat.mul_le_mul_right _ (Nat.le_succ m))⟩⟩
  · have := rdone_len hb.sd a; have := hb.dir
    show (rdone r.burn.dir a).length ≤ _
    omega
  · have := hb.sacts
    show r.burn.safe.length + (r.burn.acts ++ [a]).length ≤ _
    rw [List.length_append, List.length_singleton]; omega
  · rcases List.mem_append.1 ha' with h' | h'
    · exact hb.na a' h'
    · obtain rfl := List.mem_singleton.1 h'
      show _ → a'.file < r.burn.files.length
      rw [e2]; exact ha
theorem RDok.grow (h : RDok r m) (hr : ∀ n : Nat, n < r.files.length → n < r.files.length + 1) : RDok { r with files := r.files ++ [⟨[], 0⟩] } (m + 1) := by
  refine ⟨h.cap, h.left, by show (r.files ++ [_]).length ≤ _; rw [List.length_append, List.length_singleton]; have := h.files; omega, Nat.le_succ_of_le h.dir, Nat.le_succ_of_le h.sacts, h.sd, h.ss, fun n hn => ?_, fun n hn => ?_, fun a ha hto => ?_, fun x hx => ?_⟩
  · show _ < (r.files ++ [_]).length
    rw [List.length_append, List.length_singleton]; exact hr _ (h.nd n hn)
  · show _ < (r.files ++ [_]).length
    rw [List.length_append, List.length_singleton]; exact hr _ (h.ns n hn)
  · show _ < (r.files ++ [_]).length
    rw [List.length_append, List.length_singleton]; exact hr _ (h.na a ha hto)
  · rcases List.mem_append.1 hx with h' | h'
    · exact ⟨(h.small x h').1, Nat.le_trans (h.small x h').2 (Nat.mul_le_mul_right _ (Nat.le_succ m))⟩
    · obtain rfl := List.mem_singleton.1 h'
      exact ⟨Nat.le_refl _, Nat.zero_le _⟩
/-- one file is turned -/
theorem RDok.turn (h : RDok r m) {m' : Nat} (hm : m ≤ m') (i : Nat) {x : File} (hx : x.safe ≤ x.data.length ∧ x.data.length ≤ m' * 65536) : RDok { r with files := r.files.set i x } m' := by
  have h := h.more hm
  refine ⟨h.cap, h.left, by show (r.files.set i x).length ≤ _; rw [List.length_set]; exact h.files, h.dir, h.sacts, h.sd, h.ss, fun n hn => ?_, fun n hn => ?_, fun a ha hto => ?_, fun y hy => ?_⟩
  · show _ < (r.files.set i x).length
    rw [List.length_set]; exact h.nd n hn
  · show _ < (r.files.set i x).length
    rw [List.length_set]; exact h.ns n hn
  · show _ < (r.files.set i x).length
    rw [List.length_set]; exact h.na a ha hto
  · rcases List.mem_or_eq_of_mem_set hy with h' | rfl
    · exact h.small y h'
    · exact hx
theorem RDok.got (h : RDok r m) (i : Nat) : (r.got i).safe ≤ (r.got i).data.length ∧ (r.got i).data.length ≤ m * 65536 := by
  unfold RD.got
  rw [List.getD_eq_getElem?_getD]
  cases hx : r.files[i]? with
  | none => exact ⟨Nat.le_refl _, Nat.zero_le _⟩
  | some x => exact h.small x (List.mem_of_getElem? hx)
theorem RDok.create (h : RDok r m) (s : List UInt8) : RDok (r.create s) (m + 1) := by
  unfold RD.create
  split
  · split
    · have hg := h.grow (fun n hn => by omega)
      have hb := hg.burn
      have e : ({ r.act ⟨[], s, r.files.length⟩ with files := r.files ++ [⟨[], 0⟩] } : RD) = { ({ r with files := r.files ++ [⟨[], 0⟩] } : RD).act ⟨[], s, r.files.length⟩ with files := r.files ++ [⟨[], 0⟩] } := by
        unfold RD.act RD.burn
        split <;> (try split) <;> rfl
      have hd : r.burn.dir = r.dir ∧ r.burn.acts = r.acts ∧ r.burn.safe = r.safe ∧ r.burn.cap = r.cap := by
        obtain ⟨e1, e2, e3, e4, e5⟩ := burn_facts r; exact ⟨e3, e5, e4, e1⟩
      have hl := h.burn.left
      refine ⟨by show r.burn.cap ≤ _; rw [hd.2.2.2]; exact h.cap, hl, hg.files, ?_, ?_, ?_, ?_, ?_, ?_, ?_, hg.small⟩
      · show (rdone r.burn.dir ⟨[], s, r.files.length⟩).length ≤ _
        rw [hd.1]; have := rdone_len h.sd ⟨[], s, r.files.length⟩; have := h.dir; omega
      · show r.burn.safe.length + (r.burn.acts ++ [(⟨[], s, r.files.length⟩ : RAct)]).length ≤ m + 1
        rw [hd.2.1, hd.2.2.1, List.length_append, List.length_singleton]; have := h.sacts; omega
      · show RSorted (rdone r.burn.dir ⟨[], s, r.files.length⟩)
        rw [hd.1]; exact rdone_sorted h.sd _
      · show RSorted r.burn.safe
        rw [hd.2.2.1]; exact h.ss
      · show ∀ n ∈ rdone r.burn.dir ⟨[], s, r.files.length⟩, n.2 < (r.files ++ [(⟨[], 0⟩ : File)]).length
        rw [hd.1]
        exact rdone_nums h.sd hg.nd (fun _ => by show r.files.length < _; rw [List.length_append, List.length_singleton]; omega)
      · show ∀ n ∈ r.burn.safe, n.2 < (r.files ++ [(⟨[], 0⟩ : File)]).length
        rw [hd.2.2.1]; exact hg.ns
      · show ∀ a ∈ r.burn.acts ++ [(⟨[], s, r.files.length⟩ : RAct)], a.to ≠ [] → a.file < (r.files ++ [(⟨[], 0⟩ : File)]).length
        rw [hd.2.1]
        intro a ha hto
        rcases List.mem_append.1 ha with h' | h'
        · exact hg.na a h' hto
        · obtain rfl := List.mem_singleton.1 h'
          show r.files.length < _
          rw [List.length_append, List.length_singleton]; omega
    · exact h.burn.more (Nat.le_succ m)
  · exact h.more (Nat.le_succ m)
theorem RDok.append (h : RDok r m) (s : List UInt8) {b : List UInt8} (hb : b.length ≤ 65536) : RDok (r.append s b) (m + 1) := by
  unfold RD.append
  have hg := h.got (r.num s)
  split
  · split
    · exact h.more (Nat.le_succ m)
    · split
      · have := h.burn.turn (m' := m + 1) (Nat.le_succ m) (r.num s) (x := ⟨(r.got (r.num s)).data ++ b, (r.got (r.num s)).safe⟩) ⟨by show (r.got (r.num s)).safe ≤ (_ ++ b).length; rw [List.length_append]; omega, by show (_ ++ b).length ≤ _; rw [List.length_append]; omega⟩
        rw [(burn_facts r).2.1] at this
        exact this
      · exact h.burn.more (Nat.le_succ m)
  · exact h.more (Nat.le_succ m)
theorem RDok.sync (h : RDok r m) (s : List UInt8) : RDok (r.sync s) m := by
  unfold RD.sync
  have hg := h.got (r.num s)
  split
  · split
    · have := h.burn.turn (Nat.le_refl m) (r.num s) (x := ⟨(r.got (r.num s)).data, (r.got (r.num s)).data.length⟩) ⟨Nat.le_refl _, hg.2⟩
      rw [(burn_facts r).2.1] at this
      exact this
    · exact h.burn
  · exact h
theorem RDok.syncDir (h : RDok r m) : RDok r.syncDir m := by
  unfold RD.syncDir
  have hb := h.burn
  split
  · exact h
  · split
    · exact ⟨hb.cap, hb.left, hb.files, hb.dir, by show r.burn.dir.length + 0 ≤ _; exact hb.dir, hb.sd, hb.sd, hb.nd, hb.nd, fun a ha => (by cases ha), hb.small⟩
    · exact hb
theorem RDok.find (h : RDok r m) {s : List UInt8} {i : Nat} (hi : rfind r.dir s = some i) : i < r.files.length := h.nd _ (rfind_mem hi)
theorem RDok.rename (h : RDok r m) (a b : List UInt8) : RDok (r.rename a b) (m + 1) := by
  unfold RD.rename
  split
  · split
    · rename_i hf
      split
      · obtain ⟨_, _, i, hi⟩ := findE_zero hf
        exact h.act (fun _ => by show r.num a < _; unfold RD.num; rw [hi]; exact h.find hi)
      · exact h.burn.more (Nat.le_succ m)
    · exact h.more (Nat.le_succ m)
  · exact h.more (Nat.le_succ m)
theorem RDok.remove (h : RDok r m) (a : List UInt8) : RDok (r.remove a) (m + 1) := by
  unfold RD.remove
  split
  · split
    · exact h.act (fun e => absurd rfl e)
    · exact h.burn.more (Nat.le_succ m)
  · exact h.more (Nat.le_succ m)
theorem RDok.fused (h : RDok r m) {n : Int} (hn : n < 9223372036854775808) : RDok (r.fused n) m :=
  ⟨h.cap, ⟨by show -1 ≤ max n (-1); omega, by show max n (-1) < _; omega⟩, h.files, h.dir, h.sacts, h.sd, h.ss, h.nd, h.ns, h.na, h.small⟩
theorem RDok.new (cap : Int) : RDok (RD.new cap) 0 :=
  ⟨by show (min (max cap 0) 16777216).toNat ≤ _; omega, ⟨by show (-1 : Int) ≤ -1; omega, by show (-1 : Int) < _; omega⟩, Nat.le_refl _, Nat.le_refl _, Nat.le_refl _, List.Pairwise.nil, List.Pairwise.nil, fun n h => (by cases h), fun n h => (by cases h), fun n h => (by cases h), fun n h => (by cases h)⟩
theorem foldl_ok {k : Nat} : ∀ (l : List RAct) {d : RDir}, RSorted d → (∀ n ∈ d, n.2 < k) → (∀ a ∈ l, a.to ≠ [] → a.file < k) → RSorted (l.foldl rdone d) ∧ (∀ n ∈ l.foldl rdone d, n.2 < k) ∧ (l.foldl rdone d).length ≤ d.length + l.length
  | [], d, h1, h2, _ => ⟨h1, h2, Nat.le_refl _⟩
  | a :: l, d, h1, h2, h3 => by
    obtain ⟨i1, i2, i3⟩ := foldl_ok l (rdone_sorted h1 a) (rdone_nums h1 h2 (h3 a List.mem_cons_self)) (fun b hb => h3 b (List.mem_cons_of_mem _ hb))
    have := rdone_len h1 a
    exact ⟨i1, i2, by rw [List.length_cons]; show (l.foldl rdone (rdone d a)).length ≤ _; omega⟩
theorem rcut_small {F : List File} {c : Nat} (h : ∀ x ∈ F, x.safe ≤ x.data.length ∧ x.data.length ≤ c) (keep : List UInt8) (i : Nat) : ∀ x ∈ rcut F keep i, x.safe ≤ x.data.length ∧ x.data.length ≤ c := by
  intro x hx
  have hg : (F.getD i ⟨[], 0⟩).safe ≤ (F.getD i ⟨[], 0⟩).data.length ∧ (F.getD i ⟨[], 0⟩).data.length ≤ c := by
    rw [List.getD_eq_getElem?_getD]
    cases hy : F[i]? with
    | none => exact ⟨Nat.le_refl _, Nat.zero_le _⟩
    | some y => exact h y (List.mem_of_getElem? hy)
  unfold rcut at hx
  rcases List.mem_or_eq_of_mem_set hx with h' | rfl
  · exact h x h'
  · have := rcutN_le (keep := keep) hg.1
    show rcutN F keep i ≤ (List.take _ _).length ∧ (List.take _ _).length ≤ _
    rw [List.length_take]
    omega
theorem rcuts_small {F : List File} {c : Nat} (h : ∀ x ∈ F, x.safe ≤ x.data.length ∧ x.data.length ≤ c) (keep : List UInt8) (l : List Nat) : ∀ x ∈ rcuts F keep l, x.safe ≤ x.data.length ∧ x.data.length ≤ c := by
  induction l generalizing F keep with
  | nil => exact h
  | cons i l ih => exact ih (rcut_small h keep i) keep.tail
theorem RDok.crash (h : RDok r m) (keep : List UInt8) : RDok (r.crash keep) m := by
  have hp : ∀ a ∈ r.acts.take (nextN keep r.acts.length), a.to ≠ [] → a.file < r.files.length := fun a ha => h.na a (List.mem_of_mem_take ha)
  obtain ⟨f1, f2, f3⟩ := foldl_ok _ h.ss h.ns hp
  have hl : (r.kept keep).length ≤ m := by
    have := h.sacts
    rw [List.length_take] at f3
    show (List.foldl rdone r.safe (r.acts.take (nextN keep r.acts.length))).length ≤ m
    omega
  refine ⟨h.cap, ⟨by show (-1 : Int) ≤ -1; omega, by show (-1 : Int) < _; omega⟩, by show (rcuts _ _ _).length ≤ m; rw [rcuts_length]; exact h.files, hl, by show (r.kept keep).length + 0 ≤ m; exact hl, f1, f1, ?_, ?_, fun a ha => (by cases ha), rcuts_small h.small _ _⟩
  · show ∀ n ∈ r.kept keep, n.2 < (rcuts r.files keep.tail (rnums (r.kept keep))).length
    rw [rcuts_length]; exact f2
  · show ∀ n ∈ r.kept keep, n.2 < (rcuts r.files keep.tail (rnums (r.kept keep))).length
    rw [rcuts_length]; exact f2
end
end Go.Proofs.YtabcdodjkfknlaaGreatDoor
