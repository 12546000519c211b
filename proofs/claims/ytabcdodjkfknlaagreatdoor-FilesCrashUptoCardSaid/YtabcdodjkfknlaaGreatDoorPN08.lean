/- A disk that lies behind a world: the calls on it, a world at a time. The document's disk, in plain words: names in order, files by number. -/
import Derived.Test.YtabcdodjkfknlaaGreatDoorPN07
import Derived.Laws.BytesArg
namespace Go.Proofs.YtabcdodjkfknlaaGreatDoor
open Go.RowKit Go.Maps Go.Shelf
theorem Dk.crashed_ok {k : Dk} (h : k.ok) (hr : k.room ≤ 4000) (keep : List UInt8) (ns : List (List UInt8)) (hn : ns.length ≤ k.room) (hsf : ∀ f x, k.file f = some x → x.safe ≤ x.data.length) : (k.crashed keep ns).ok := by
  have hs := Dk.cuts_same (k.kept keep) keep.tail ns
  have hu := Dk.cuts_used (k.kept keep) keep.tail ns (k.room * 65536) (fun f x hf => ⟨h.small f x hf, hsf f x hf⟩)
  have hz : (k.kept keep).used = 0 := rfl
  rw [hz] at hu
  have hlive : ∀ s f, ((k.kept keep).cuts keep.tail ns).safe s = some f → (((k.kept keep).cuts keep.tail ns).file f).isSome = true := fun s f hf => by
    rw [hs.2.1] at hf
    exact Dk.cuts_live _ _ _ f (Dk.kept_live h keep s f hf)
  refine ⟨?_, ⟨by show (-1 : Int) ≤ -1; omega, by show (-1 : Int) < _; omega⟩, ?_, hlive, hlive, fun a ha => (by cases ha), ?_⟩
  · show ((k.kept keep).cuts keep.tail ns).cap ≤ _
    rw [hs.2.2.2.1]
    exact h.cap
  · show -(k.room * 1073741824 : Int) ≤ ((k.kept keep).cuts keep.tail ns).used ∧ ((k.kept keep).cuts keep.tail ns).used ≤ k.room * 1073741824
    have h1 : (ns.length : Int) * ((k.room * 65536 : Nat) : Int) ≤ 4000 * ((k.room * 65536 : Nat) : Int) := Int.mul_le_mul_of_nonneg_right (by omega) (by omega)
    omega
  · exact Dk.cuts_small _ _ _ _ h.small
theorem Disk.sound {w : World} {B D : Nat} {O : Nat → Prop} {k : Dk} (h : Disk w B D O k) : (∀ f x, k.file f = some x → x.safe ≤ x.data.length) ∧ ∀ f, w.heap.size ≤ f → k.file f = none := by
  obtain ⟨bd, bs, n, va, rows, hd, hn, rfl⟩ := h
  refine ⟨fun f x hf => (hd.file f x hf).2.2.2, fun f hf => ?_⟩
  cases hx : k.file f with
  | none => rfl
  | some x => have := (hd.file f x hx).2.1.lt; omega
/-- string(v) -/
theorem bytes_string {w : World} {v : Value} {l : List UInt8} (h : Bytes w v l) : (convert 43 9 v).run Tryz.prog w = .ok (.string ⟨l.toArray⟩) w := by
  rcases h with (⟨rfl, rfl⟩ | ⟨g, o, c, rfl, hc, h⟩) | ⟨a, c, rfl, rfl⟩
  · have := run_convert_bytes_nil (P := Tryz.prog) (w := w) 43 5 Tryz.underlying43 Tryz.underlying5 0 0 9 Tryz.underlying9
    exact this
  · have := run_convert_bytes_arg (P := Tryz.prog) (w := w) 43 5 Tryz.underlying43 Tryz.underlying5 g o l.length c (l.map fun x => (x.toNat : Int)) (by simp) (fun i hi => by
      obtain ⟨x, hx⟩ : ∃ x, l[i]? = some x := ⟨_, List.getElem?_eq_getElem hi⟩
      rw [h i x hx]
      simp [List.getD, hx]) 9 Tryz.underlying9
    rw [this]
    refine congrArg (fun s => Result.ok (Value.string s) w) ?_
    apply ByteArray.ext
    apply Array.toList_inj.1
    rw [strOfNums_data, List.map_map]
    show _ = l
    conv => rhs; rw [← List.map_id l]
    apply List.map_congr_left
    intro x _
    simp
  · exact run_convert_bytes_back w 43 9 5 a c [] Tryz.underlying43 Tryz.underlying5 Tryz.underlying9 (fun j hj => absurd hj (Nat.not_lt_zero _))
/-- a disk lies at block D, its blocks all behind the world w0 -/
def Has (w0 w : World) (D : Nat) (k : Dk) : Prop := k.ok ∧ Below w0.heap.size w0 w ∧ ∃ O, Disk w w0.heap.size D O k
section
variable {w0 w w1 w' : World} {D : Nat} {k k' : Dk}
theorem Has.ok (h : Has w0 w D k) : k.ok := h.1
theorem Has.below (h : Has w0 w D k) : Below w0.heap.size w0 w := h.2.1
theorem Has.le (h : Has w0 w D k) : w0.heap.size ≤ w.heap.size := h.2.1.size
theorem Has.later (h : Has w0 w D k) (hb : Below w.heap.size w w1) : Has w0 w1 D k := by
  obtain ⟨h1, h2, O, h3⟩ := h
  exact ⟨h1, h2.trans (hb.mono h2.size), O, h3.later hb⟩
theorem Has.fresh (h : Has w0 w D k) {f : Nat} (hf : w.heap.size ≤ f) : k.file f = none := by
  obtain ⟨_, _, O, h3⟩ := h
  exact h3.sound.2 f hf
theorem Has.goes {O : Nat → Prop} (h : Below w0.heap.size w0 w) (hd : Disk w w0.heap.size D O k) (hg : Goes w w0.heap.size D O k' w') (hk : k'.ok) : Has w0 w' D k' := by
  obtain ⟨⟨O', g1, g2⟩, g3⟩ := hg
  exact ⟨hk, h.trans (g3.below (fun j _ hj => (hd.lt j hj).1) h.size), O', g1⟩
theorem Has.keeps {O : Nat → Prop} (h : Below w0.heap.size w0 w) (hd : Disk w w0.heap.size D O k) (hg : Disk w' w0.heap.size D O k') (hb : Keeps O w w') (hk : k'.ok) : Has w0 w' D k' :=
  ⟨hk, h.trans (hb.below (fun j _ hj => (hd.lt j hj).1) h.size), O, hg⟩
theorem Dk.new_ok (cap : Int) : (Dk.new cap).ok :=
  ⟨by show (min (max cap 0) 16777216).toNat ≤ 16777216; omega, ⟨by show (-1 : Int) ≤ -1; omega, by show (-1 : Int) < _; omega⟩, ⟨by show (-((0 : Nat) * 1073741824 : Int)) ≤ 0; decide, by show (0 : Int) ≤ (0 : Nat) * 1073741824; decide⟩, fun _ _ h => (by cases h), fun _ _ h => (by cases h), fun _ h => (by cases h), fun _ _ h => (by cases h)⟩
theorem new_has (cap : Int) (w : World) : Calls Tryz.prog 17 #[.int .i64 cap] w fun e w' => e = .returned (.pointer (some ⟨w.heap.size + 2, 0, none⟩)) ∧ Has w w' (w.heap.size + 2) (Dk.new cap) :=
  (dnew_calls cap w).mono fun _ _ ⟨h1, h2, h3⟩ => ⟨h1, Dk.new_ok cap, h3, h2⟩
theorem create_has (h : Has w0 w D k) (s : ByteArray) (hs : s.size ≤ maxLen) (hr : k.room < 4000) : Calls Tryz.prog 70 #[.pointer (some ⟨D, 0, none⟩), .string s] w fun e w' => e = .returned (.int .i64 (k.createE s.data.toList)) ∧ ∃ f, k.file f = none ∧ Has w0 w' D (k.created f s) := by
  obtain ⟨h1, h2, O, h3⟩ := id h
  exact (create_calls k _ D O s w h3 h1 hs hr h2.size).mono fun _ _ ⟨e, f, hf, hg⟩ => ⟨e, f, h.fresh hf, .goes h2 h3 hg (Dk.created_ok h1 hr hs)⟩
theorem append_has (h : Has w0 w D k) (hb : Below w.heap.size w w1) (s : ByteArray) {v : Value} {b : List UInt8} (hv : Bytes w1 v b) (hn : ∀ g, v.ownBlock = some g → w.heap.size ≤ g ∨ g < w0.heap.size) (hs : s.size ≤ maxLen) (hr : k.room < 4000) (hl : b.length ≤ 65536) :
    Calls Tryz.prog 21 #[.pointer (some ⟨D, 0, none⟩), .string s, v] w1 fun e w' => e = .returned (.int .i64 (k.appE s.data.toList b.length)) ∧ Has w0 w' D (k.apped s.data.toList b) := by
  obtain ⟨h1, h2, O, h3⟩ := id h
  have hO : ∀ g, v.ownBlock = some g → ¬ O g := fun g hg ho => by
    have := h3.lt g ho
    rcases hn g hg with h | h <;> omega
  have h2' := h2.trans (hb.mono h2.size)
  exact (append_calls k _ D O s v b w1 (h3.later hb) h1 hr hs (Nat.le_trans h2.size hb.size) hv (fun g hg _ => hO g hg) hl).mono fun _ _ ⟨e, hg⟩ => ⟨e, .goes h2' (h3.later hb) hg (Dk.apped_ok h1 hl)⟩
theorem sync_has (h : Has w0 w D k) (s : ByteArray) (hs : s.size ≤ maxLen) : Calls Tryz.prog 97 #[.pointer (some ⟨D, 0, none⟩), .string s] w fun e w' => e = .returned (.int .i64 (k.syncE s.data.toList)) ∧ Has w0 w' D (k.synced s.data.toList) := by
  obtain ⟨h1, h2, O, h3⟩ := id h
  exact (sync_calls k _ D O s w h3 h1 hs).mono fun _ _ ⟨e, hg⟩ => ⟨e, .goes h2 h3 hg (Dk.synced_ok h1)⟩
theorem syncDir_has (h : Has w0 w D k) : Calls Tryz.prog 52 #[.pointer (some ⟨D, 0, none⟩)] w fun e w' => e = .returned (.int .i64 k.syncDirE) ∧ Has w0 w' D k.syncedDir := by
  obtain ⟨h1, h2, O, h3⟩ := id h
  exact (syncDir_calls k _ D O w h3 h1 h2.size).mono fun _ _ ⟨e, hg⟩ => ⟨e, .goes h2 h3 hg (Dk.syncedDir_ok h1)⟩
theorem fuse_has (h : Has w0 w D k) (n : Int) (hn : n < 9223372036854775808) : Calls Tryz.prog 26 #[.pointer (some ⟨D, 0, none⟩), .int .i64 n] w fun e w' => e = .returned (.tuple #[]) ∧ Has w0 w' D (k.fused n) := by
  obtain ⟨h1, h2, O, h3⟩ := id h
  exact (fuse_calls k _ D O n w h3).mono fun _ _ ⟨e, hg, hk⟩ => ⟨e, .keeps h2 h3 hg hk (Dk.fused_ok h1 hn)⟩
theorem list_has (h : Has w0 w D k) (hr : k.room ≤ 4000) : Calls Tryz.prog 24 #[.pointer (some ⟨D, 0, none⟩)] w (ListPost w k.list) := by
  obtain ⟨h1, h2, O, h3⟩ := h
  exact list_calls k _ D O w h3 hr
theorem read_has (h : Has w0 w D k) (s : ByteArray) (hr : k.room ≤ 4000) (hs : s.size ≤ maxLen) : Calls Tryz.prog 59 #[.pointer (some ⟨D, 0, none⟩), .string s] w (ReadPost w (k.findE s.data.toList) (k.readB s.data.toList)) := by
  obtain ⟨h1, h2, O, h3⟩ := h
  exact read_calls k _ D O s w h3 h1 hr hs
theorem rename_has (h : Has w0 w D k) (s t : ByteArray) (hs : s.size ≤ maxLen) (ht : t.size ≤ maxLen) (hr : k.room < 4000) : Calls Tryz.prog 51 #[.pointer (some ⟨D, 0, none⟩), .string s, .string t] w fun e w' => e = .returned (.int .i64 (k.renameE s.data.toList t.data.toList)) ∧ Has w0 w' D (k.renamed s t) := by
  obtain ⟨h1, h2, O, h3⟩ := id h
  exact (rename_calls k _ D O s t w h3 h1 hr hs ht h2.size).mono fun _ _ ⟨e, hg⟩ => ⟨e, .goes h2 h3 hg (Dk.renamed_ok h1 hr hs ht)⟩
theorem remove_has (h : Has w0 w D k) (s : ByteArray) (hs : s.size ≤ maxLen) (hr : k.room < 4000) : Calls Tryz.prog 46 #[.pointer (some ⟨D, 0, none⟩), .string s] w fun e w' => e = .returned (.int .i64 (k.removeE s.data.toList)) ∧ Has w0 w' D (k.removed s) := by
  obtain ⟨h1, h2, O, h3⟩ := id h
  exact (remove_calls k _ D O s w h3 h1 hr hs h2.size).mono fun _ _ ⟨e, hg⟩ => ⟨e, .goes h2 h3 hg (Dk.removed_ok h1 hr hs)⟩
theorem crash_has (h : Has w0 w D k) (hb : Below w.heap.size w w1) {v : Value} {keep : List UInt8} (hv : Bytes w1 v keep) (hn : ∀ g, v.ownBlock = some g → (w.heap.size ≤ g ∨ g < w0.heap.size) ∧ g < w1.heap.size) (hr : k.room ≤ 4000) (hl : keep.length ≤ 1000000) :
    Calls Tryz.prog 27 #[.pointer (some ⟨D, 0, none⟩), v] w1 fun e w' => e = .returned (.tuple #[]) ∧ ∃ ns, Names (k.kept keep).safe ns ∧ Has w0 w' D (k.crashed keep ns) := by
  obtain ⟨h1, h2, O, h3⟩ := id h
  have hO : ∀ g, v.ownBlock = some g → ¬ O g ∧ g < w1.heap.size := fun g hg => ⟨fun ho => by
    have := h3.lt g ho
    rcases (hn g hg).1 with h | h <;> omega, (hn g hg).2⟩
  have h2' := h2.trans (hb.mono h2.size)
  exact (crash_calls k _ D O v keep w1 (h3.later hb) h1 hr (Nat.le_trans h2.size hb.size) hv (fun g hg _ => hO g hg) hl).mono fun _ _ ⟨e, ns, hN, hl, hg⟩ => ⟨e, ns, hN, .goes h2' (h3.later hb) hg (Dk.crashed_ok h1 hr keep ns hl h3.sound.1)⟩
end
end Go.Proofs.YtabcdodjkfknlaaGreatDoor
namespace Go.Proofs.YtabcdodjkfknlaaGreatDoor
abbrev RDir := List (List UInt8 × Nat)
structure RAct where
  frm : List UInt8
  to : List UInt8
  file : Nat
structure RD where
  cap : Nat
  down : Bool
  left : Int
  files : List File
  dir : RDir
  safe : RDir
  acts : List RAct
def rfind : RDir → List UInt8 → Option Nat
  | [], _ => none
  | n :: d, s => if n.1 = s then some n.2 else rfind d s
def rput (s : List UInt8) (f : Nat) : Bool → RDir → RDir
  | dn, [] => if dn then [] else [(s, f)]
  | dn, n :: d => (if !dn && decide (s < n.1) then [(s, f)] else []) ++ ((if n.1 = s then [] else [n]) ++ rput s f (dn || decide (s < n.1)) d)
def rset (d : RDir) (s : List UInt8) : Option Nat → RDir
  | none => rput s 0 true d
  | some i => rput s i false d
def rdone (d : RDir) (a : RAct) : RDir :=
  if a.to = [] then (if a.frm = [] then d else rset d a.frm none) else rset (if a.frm = [] then d else rset d a.frm none) a.to (some a.file)
def RSorted (d : RDir) : Prop := d.Pairwise fun a b => a.1 < b.1
def rlo (d : RDir) (s : List UInt8) : RDir := d.filter fun n => decide (n.1 < s)
def rhi (d : RDir) (s : List UInt8) : RDir := d.filter fun n => decide (s < n.1)
def rmid (d : RDir) (s : List UInt8) : RDir := match rfind d s with
  | none => []
  | some i => [(s, i)]
theorem lt_irr (s : List UInt8) : ¬ s < s := List.lt_irrefl s
theorem lt_asym {s t : List UInt8} (h : s < t) : ¬ t < s := fun h' => lt_irr s (List.lt_trans h h')
theorem lt_tri (s t : List UInt8) : s < t ∨ s = t ∨ t < s := by
  rcases Classical.em (s < t) with h | h
  · exact .inl h
  · rcases Classical.em (t < s) with h' | h'
    · exact .inr (.inr h')
    · exact .inr (.inl (List.le_antisymm (List.not_lt.1 h') (List.not_lt.1 h)))
theorem rall_gt {n : List UInt8 × Nat} {d : RDir} (h : RSorted (n :: d)) : ∀ m ∈ d, n.1 < m.1 := (List.pairwise_cons.1 h).1
theorem rtail {n : List UInt8 × Nat} {d : RDir} (h : RSorted (n :: d)) : RSorted d := (List.pairwise_cons.1 h).2
theorem rhi_all {d : RDir} {s : List UInt8} (h : ∀ m ∈ d, s < m.1) : rlo d s = [] ∧ rhi d s = d ∧ rfind d s = none := by
  induction d with
  | nil => exact ⟨rfl, rfl, rfl⟩
  | cons n d ih =>
    obtain ⟨h1, h2, h3⟩ := ih fun m hm => h m (List.mem_cons_of_mem _ hm)
    have hn := h n List.mem_cons_self
    refine ⟨?_, ?_, ?_⟩
    · unfold rlo at *; rw [List.filter_cons, if_neg (by simpa using lt_asym hn)]; exact h1
    · unfold rhi at *; rw [List.filter_cons, if_pos (by simpa using hn), h2]
    · unfold rfind; rw [if_neg (fun e => by rw [e] at hn; exact lt_irr _ hn)]; exact h3
theorem rput_true (s : List UInt8) (f : Nat) : ∀ d : RDir, rput s f true d = d.filter fun n => decide (n.1 ≠ s)
  | [] => rfl
  | n :: d => by
    show [] ++ ((if n.1 = s then [] else [n]) ++ rput s f true d) = _
    rw [rput_true s f d, List.filter_cons]
    by_cases e : n.1 = s
    · rw [if_pos e, if_neg (by simpa using e)]; rfl
    · rw [if_neg e, if_pos (by simpa using e)]; rfl
/-- a directory falls into what stands ahead of a name, the name, what stands behind -/
theorem rsplit {d : RDir} (h : RSorted d) (s : List UInt8) : d = rlo d s ++ (rmid d s ++ rhi d s) := by
  induction d with
  | nil => rfl
  | cons n d ih =>
    have ih := ih (rtail h)
    rcases lt_tri n.1 s with hl | he | hg
    · have e1 : rlo (n :: d) s = n :: rlo d s := by unfold rlo; rw [List.filter_cons, if_pos (by simpa using hl)]
      have e2 : rhi (n :: d) s = rhi d s := by unfold rhi; rw [List.filter_cons, if_neg (by simpa using lt_asym hl)]
      have e3 : rmid (n :: d) s = rmid d s := by unfold rmid; rw [show rfind (n :: d) s = rfind d s from if_neg (fun e => by rw [e] at hl; exact lt_irr _ hl)]
      rw [e1, e2, e3, List.cons_append, ← ih]
    · have ha := rhi_all (s := s) (by rw [← he]; exact rall_gt h)
      have e1 : rlo (n :: d) s = [] := by unfold rlo at ha ⊢; rw [List.filter_cons, if_neg (by rw [he]; simp)]; exact ha.1
      have e2 : rhi (n :: d) s = d := by unfold rhi at ha ⊢; rw [List.filter_cons, if_neg (by rw [he]; simp)]; exact ha.2.1
      have e3 : rmid (n :: d) s = [n] := by unfold rmid; rw [show rfind (n :: d) s = some n.2 from if_pos he, ← he]
      rw [e1, e2, e3]; rfl
    · have ha := rhi_all (d := n :: d) (s := s) (fun m hm => by
        rcases List.mem_cons.1 hm with rfl | hm
        · exact hg
        · exact List.lt_trans hg (rall_gt h m hm))
      rw [ha.1, ha.2.1]
      unfold rmid
      rw [ha.2.2]; rfl
theorem rput_true_eq {d : RDir} (h : RSorted d) (s : List UInt8) (f : Nat) : rput s f true d = rlo d s ++ rhi d s := by
  rw [rput_true]
  induction d with
  | nil => rfl
  | cons n d ih =>
    have ih := ih (rtail h)
    rcases lt_tri n.1 s with hl | he | hg
    · rw [List.filter_cons, if_pos (by simpa using fun e => by rw [e] at hl; exact lt_irr _ hl), ih]
      unfold rlo rhi
      rw [List.filter_cons, if_pos (by simpa using hl), List.filter_cons, if_neg (by simpa using lt_asym hl)]; rfl
    · rw [List.filter_cons, if_neg (by simpa using he), ih]
      unfold rlo rhi
      rw [List.filter_cons, if_neg (by rw [he]; simp), List.filter_cons, if_neg (by rw [he]; simp)]
    · rw [List.filter_cons, if_pos (by simpa using fun e => by rw [e] at hg; exact lt_irr _ hg), ih]
      have ha := rhi_all (d := d) (s := s) (fun m hm => List.lt_trans hg (rall_gt h m hm))
      rw [ha.1, ha.2.1]
      unfold rlo rhi at *
      rw [List.filter_cons, if_neg (by simpa using lt_asym hg), List.filter_cons, if_pos (by simpa using hg), ha.1, ha.2.1]; rfl
theorem rput_false_eq {d : RDir} (h : RSorted d) (s : List UInt8) (f : Nat) : rput s f false d = rlo d s ++ (s, f) :: rhi d s := by
  induction d with
  | nil => rfl
  | cons n d ih =>
    have ih := ih (rtail h)
    show (if !false && decide (s < n.1) then [(s, f)] else []) ++ ((if n.1 = s then [] else [n]) ++ rput s f (false || decide (s < n.1)) d) = _
    rw [Bool.not_false, Bool.true_and, Bool.false_or]
    rcases lt_tri n.1 s with hl | he | hg
    · rw [if_neg (by simpa using lt_asym hl), if_neg (fun e => by rw [e] at hl; exact lt_irr _ hl), decide_eq_false (lt_asym hl), ih]
      unfold rlo rhi
      rw [List.filter_cons, if_pos (by simpa using hl), List.filter_cons, if_neg (by simpa using lt_asym hl)]; rfl
    · rw [if_neg (by rw [he]; simp), if_pos he, decide_eq_false (by rw [he]; exact lt_irr s), ih]
      unfold rlo rhi
      rw [List.filter_cons, if_neg (by rw [he]; simp), List.filter_cons, if_neg (by rw [he]; simp)]; rfl
    · rw [if_pos (by simpa using hg), if_neg (fun e => by rw [e] at hg; exact lt_irr _ hg), decide_eq_true hg, rput_true_eq (rtail h)]
      have ha := rhi_all (d := d) (s := s) (fun m hm => List.lt_trans hg (rall_gt h m hm))
      rw [ha.1, ha.2.1]
      unfold rlo rhi at *
      rw [List.filter_cons, if_neg (by simpa using lt_asym hg), List.filter_cons, if_pos (by simpa using hg), ha.1, ha.2.1]; rfl
theorem rfind_append (a b : RDir) (s : List UInt8) : rfind (a ++ b) s = (rfind a s).or (rfind b s) := by
  induction a with
  | nil => rfl
  | cons n a ih =>
    show (if n.1 = s then some n.2 else rfind (a ++ b) s) = ((if n.1 = s then some n.2 else rfind a s)).or (rfind b s)
    by_cases e : n.1 = s
    · rw [if_pos e, if_pos e]; rfl
    · rw [if_neg e, if_neg e, ih]
theorem rfind_filter (p : List UInt8 → Bool) (d : RDir) (s : List UInt8) : rfind (d.filter fun n => p n.1) s = if p s then rfind d s else none := by
  induction d with
  | nil => simp [rfind]
  | cons n d ih =>
    rw [List.filter_cons]
    by_cases e : n.1 = s
    · cases hp : p n.1
      · rw [if_neg (by simp), ih, ← e, hp]; rfl
      · rw [if_pos rfl, ← e, hp]
        show (if n.1 = n.1 then some n.2 else _) = if true = true then (if n.1 = n.1 then some n.2 else _) else none
        rw [if_pos rfl, if_pos rfl, if_pos rfl]
    · have e2 : rfind (n :: d) s = rfind d s := if_neg e
      rw [e2]
      cases hp : p n.1
      · rw [if_neg (by simp), ih]
      · rw [if_pos rfl, ← ih]; exact if_neg e
theorem rfind_put {d : RDir} (h : RSorted d) (s : List UInt8) (f : Nat) (t : List UInt8) : rfind (rput s f false d) t = if t = s then some f else rfind d t := by
  rw [rput_false_eq h, rfind_append]
  unfold rlo rhi
  rw [rfind_filter (fun x => decide (x < s))]
  have e : ∀ l, rfind ((s, f) :: l) t = if s = t then some f else rfind l t := fun _ => rfl
  rw [e, rfind_filter (fun x => decide (s < x))]
  rcases lt_tri t s with hl | he | hg
  · have hne : t ≠ s := fun e => by rw [e] at hl; exact lt_irr _ hl
    rw [if_pos (by simpa using hl), if_neg hne, if_neg (Ne.symm hne), if_neg (by simpa using lt_asym hl)]
    cases rfind d t <;> rfl
  · subst he
    rw [if_neg (by simp), if_pos rfl, if_pos rfl]; rfl
  · have hne : t ≠ s := fun e => by rw [e] at hg; exact lt_irr _ hg
    rw [if_neg (by simpa using lt_asym hg), if_neg hne, if_neg (Ne.symm hne), if_pos (by simpa using hg)]; rfl
theorem rfind_del (d : RDir) (s : List UInt8) (t : List UInt8) : rfind (rput s 0 true d) t = if t = s then none else rfind d t := by
  rw [rput_true, rfind_filter (fun x => decide (x ≠ s))]
  by_cases e : t = s
  · rw [if_pos e, if_neg (by simpa using e)]
  · rw [if_neg e, if_pos (by simpa using e)]
theorem rlohi {d : RDir} (h : RSorted d) (s : List UInt8) : RSorted (rlo d s ++ rhi d s) := by
  unfold RSorted
  refine List.pairwise_append.2 ⟨h.filter _, h.filter _, fun a ha b hb => ?_⟩
  exact List.lt_trans (by simpa using (List.mem_filter.1 ha).2) (by simpa using (List.mem_filter.1 hb).2)
theorem rlomidhi {d : RDir} (h : RSorted d) (s : List UInt8) (f : Nat) : RSorted (rlo d s ++ (s, f) :: rhi d s) := by
  unfold RSorted
  refine List.pairwise_append.2 ⟨h.filter _, List.pairwise_cons.2 ⟨fun b hb => by simpa using (List.mem_filter.1 hb).2, h.filter _⟩, fun a ha b hb => ?_⟩
  have h1 : a.1 < s := by simpa using (List.mem_filter.1 ha).2
  rcases List.mem_cons.1 hb with rfl | hb
  · exact h1
  · exact List.lt_trans h1 (by simpa using (List.mem_filter.1 hb).2)
theorem rset_sorted {d : RDir} (h : RSorted d) (s : List UInt8) (f : Option Nat) : RSorted (rset d s f) := by
  cases f with
  | none => show RSorted (rput s 0 true d); rw [rput_true_eq h]; exact rlohi h s
  | some i => show RSorted (rput s i false d); rw [rput_false_eq h]; exact rlomidhi h s i
theorem rfind_set {d : RDir} (h : RSorted d) (s : List UInt8) (f : Option Nat) (t : List UInt8) : rfind (rset d s f) t = if t = s then f else rfind d t := by
  cases f with
  | none => exact rfind_del d s t
  | some i => exact rfind_put h s i t
theorem rdone_sorted {d : RDir} (h : RSorted d) (a : RAct) : RSorted (rdone d a) := by
  unfold rdone
  split <;> split
  · exact h
  · exact rset_sorted h _ _
  · exact rset_sorted h _ _
  · exact rset_sorted (rset_sorted h _ _) _ _
/-- the numbers of a directory's files -/
def rnums (d : RDir) : List Nat := d.map Prod.snd
theorem rmem_lo {d : RDir} {s : List UInt8} {n : List UInt8 × Nat} (h : n ∈ rlo d s) : n ∈ d := (List.mem_filter.1 h).1
theorem rmem_hi {d : RDir} {s : List UInt8} {n : List UInt8 × Nat} (h : n ∈ rhi d s) : n ∈ d := (List.mem_filter.1 h).1
theorem rfind_mem {d : RDir} {s : List UInt8} {i : Nat} (h : rfind d s = some i) : (s, i) ∈ d := by
  induction d with
  | nil => cases h
  | cons n d ih =>
    unfold rfind at h
    split at h
    · rename_i e
      obtain rfl := Option.some.inj h
      rw [← e]; exact List.mem_cons_self
    · exact List.mem_cons_of_mem _ (ih h)
theorem rmem_find {d : RDir} (hs : RSorted d) {n : List UInt8 × Nat} (h : n ∈ d) : rfind d n.1 = some n.2 := by
  induction d with
  | nil => cases h
  | cons m d ih =>
    unfold rfind
    rcases List.mem_cons.1 h with rfl | h'
    · rw [if_pos rfl]
    · have := rall_gt hs n h'
      rw [if_neg (fun e => by rw [e] at this; exact lt_irr _ this)]
      exact ih (rtail hs) h'
theorem rnums_del {d : RDir} (h : RSorted d) (s : List UInt8) : (rnums (rset d s none)).Perm (rnums (rlo d s) ++ rnums (rhi d s)) := by
  show (rnums (rput s 0 true d)).Perm _
  rw [rput_true_eq h]
  unfold rnums
  rw [List.map_append]
theorem rnums_put {d : RDir} (h : RSorted d) (s : List UInt8) (f : Nat) : (rnums (rset d s (some f))).Perm (f :: (rnums (rlo d s) ++ rnums (rhi d s))) := by
  show (rnums (rput s f false d)).Perm _
  rw [rput_false_eq h]
  unfold rnums
  rw [List.map_append, List.map_cons]
  exact List.perm_middle
theorem rnums_all {d : RDir} (h : RSorted d) (s : List UInt8) : (rnums d).Perm ((match rfind d s with | none => [] | some i => [i]) ++ (rnums (rlo d s) ++ rnums (rhi d s))) := by
  have e : rnums d = rnums (rlo d s) ++ (rnums (rmid d s) ++ rnums (rhi d s)) := by
    conv => lhs; rw [rsplit h s]
    unfold rnums
    rw [List.map_append, List.map_append]
  rw [e]
  unfold rmid
  cases rfind d s with
  | none => exact List.Perm.refl _
  | some i => exact List.perm_middle
theorem rnums_set_mem {d : RDir} (h : RSorted d) {s : List UInt8} {f : Option Nat} {i : Nat} (hi : i ∈ rnums (rset d s f)) : f = some i ∨ i ∈ rnums d := by
  have hsub : ∀ x, x ∈ rnums (rlo d s) ++ rnums (rhi d s) → x ∈ rnums d := fun x hx => by
    unfold rnums at hx
    rw [List.mem_append, List.mem_map, List.mem_map] at hx
    unfold rnums
    rcases hx with ⟨n, hn, e⟩ | ⟨n, hn, e⟩
    · exact List.mem_map.2 ⟨n, rmem_lo hn, e⟩
    · exact List.mem_map.2 ⟨n, rmem_hi hn, e⟩
  cases f with
  | none => exact .inr (hsub i ((rnums_del h s).mem_iff.1 hi))
  | some j =>
    rcases List.mem_cons.1 ((rnums_put h s j).mem_iff.1 hi) with rfl | hx
    · exact .inl rfl
    · exact .inr (hsub i hx)
/-- the sum of what the files of a directory have -/
def rsize (F : List File) (i : Nat) : Nat := (F.getD i ⟨[], 0⟩).data.length
def rsum (F : List File) (l : List Nat) : Nat := (l.map (rsize F)).sum
theorem rsum_perm {F : List File} {l l' : List Nat} (h : l.Perm l') : rsum F l = rsum F l' := (h.map _).sum_nat
theorem rsum_cons (F : List File) (i : Nat) (l : List Nat) : rsum F (i :: l) = rsize F i + rsum F l := by simp [rsum]
theorem rsum_append (F : List File) (l l' : List Nat) : rsum F (l ++ l') = rsum F l + rsum F l' := by simp [rsum]
end Go.Proofs.YtabcdodjkfknlaaGreatDoor
