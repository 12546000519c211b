/- Walks: what Start does to a disk. Walks: lay. -/
import Derived.Test.YtabcdodjkfknlaaGreatDoorPL27
import Derived.Test.YtabcdodjkfknlaaGreatDoorPL16
namespace Go.Proofs.YtabcdodjkfknlaaGreatDoor
open Go.RowKit
def startA (r : RD) (name b : List UInt8) : RD × Int := layR r name b
def startB (r : RD) (name b : List UInt8) : RD × Int := oldR (startA r name b).1
def startC (r : RD) (name b : List UInt8) : RD × Int := layR (startB r name b).1 freshL name
def startD (r : RD) (name b : List UInt8) : RD × Int := ((startC r name b).1.rename freshL currentL, (startC r name b).1.renameE freshL currentL)
def startE (r : RD) (name b : List UInt8) : RD × Int := ((startD r name b).1.syncDir, (startD r name b).1.syncDirE)
/-- what Start does to a disk -/
def startS (r : RD) (name b : List UInt8) : RD × Int :=
  if (startA r name b).2 ≠ 0 then startA r name b else
  if (startB r name b).2 ≠ 0 then startB r name b else
  if (startC r name b).2 ≠ 0 then startC r name b else
  if (startD r name b).2 ≠ 0 then startD r name b else startE r name b
section
variable {W1 : World} {B D m : Nat} {O : Nat → Prop} {r : RD}
def stJ (W1 : World) (B D m : Nat) (O : Nat → Prop) (r : RD) (s b : List UInt8) (k : Nat) (W' : World) : Prop :=
  match k with
  | 0 => DGo W1 B D O r m W'
  | 1 => (startA r s b).2 = 0 ∧ DGo W1 B D O (startA r s b).1 (m + 2) W'
  | 2 => (startA r s b).2 = 0 ∧ (startB r s b).2 = 0 ∧ DGo W1 B D O (startB r s b).1 (m + 3) W'
  | 3 => (startA r s b).2 = 0 ∧ (startB r s b).2 = 0 ∧ (startC r s b).2 = 0 ∧ DGo W1 B D O (startC r s b).1 (m + 5) W'
  | 4 => (startA r s b).2 = 0 ∧ (startB r s b).2 = 0 ∧ (startC r s b).2 = 0 ∧ (startD r s b).2 = 0 ∧ DGo W1 B D O (startD r s b).1 (m + 6) W'
  | 5 => (startA r s b).2 = 0 ∧ (startB r s b).2 = 0 ∧ (startC r s b).2 = 0 ∧ (startD r s b).2 = 0 ∧ (startE r s b).2 = 0 ∧ DGo W1 B D O (startE r s b).1 (m + 6) W'
  | _ => False
theorem stJ_go {W' : World} {b l : List UInt8} {k : Nat} (h : stJ W1 B D m O r l b k W') : ∃ r' m', DGo W1 B D O r' m' W' := by
  match k, h with
  | 0, h => exact ⟨_, _, h⟩
  | 1, h => exact ⟨_, _, h.2⟩
  | 2, h => exact ⟨_, _, h.2.2⟩
  | 3, h => exact ⟨_, _, h.2.2.2⟩
  | 4, h => exact ⟨_, _, h.2.2.2.2⟩
  | 5, h => exact ⟨_, _, h.2.2.2.2.2⟩
abbrev fn0 (F : Nat) (caps : Array Value) : Value := .func (.func F) #[] caps
abbrev pt (g : Nat) : Value := .pointer (some ⟨g, 0, none⟩)
/-- what a closure of lay holds -/
structure LayAt (W : World) (D : Nat) (O : Nat → Prop) (x1 x2 x3 : Nat) (s : ByteArray) (v : Value) (b : List UInt8) : Prop where
  d : Blk W x1 39 #[dptr D]
  n : Blk W x2 9 #[.string s]
  c : Blk W x3 43 #[v]
  no : ¬ O x1 ∧ ¬ O x2 ∧ ¬ O x3
  bytes : Bytes W v b
  own : ∀ g, v.ownBlock = some g → b ≠ [] → ¬ O g ∧ g < W.heap.size
  size : s.size ≤ maxLen
  len : b.length ≤ 65536
theorem LayAt.step {W W' : World} {O1 : Nat → Prop} {x1 x2 x3 : Nat} {s : ByteArray} {v : Value} {b : List UInt8} (h : LayAt W D O x1 x2 x3 s v b) (hs : ∀ j, O1 j → O j ∨ W.heap.size ≤ j) (hk : Keeps O W W') : LayAt W' D O1 x1 x2 x3 s v b := by
  obtain ⟨h1, h2, h3, ⟨n1, n2, n3⟩, h5, h6, h7, h8⟩ := h
  have l1 := h1.lt
  have l2 := h2.lt
  have l3 := h3.lt
  have hn : ∀ g, ¬ O g → g < W.heap.size → ¬ O1 g := fun g a b e => (hs g e).elim a fun h => by omega
  exact ⟨h1.keeps hk n1, h2.keeps hk n2, h3.keeps hk n3, ⟨hn _ n1 l1, hn _ n2 l2, hn _ n3 l3⟩, h5.keepsP hk fun g hg hb => (h6 g hg hb).1, fun g hg hb => ⟨hn g (h6 g hg hb).1 (h6 g hg hb).2, Nat.lt_of_lt_of_le (h6 g hg hb).2 hk.size⟩, h7, h8⟩
theorem LayAt.calls {W : World} {x1 x2 x3 : Nat} {s : ByteArray} {v : Value} {b : List UInt8} (h : LayAt W D O x1 x2 x3 s v b) (hD : DAt W B D O r m) (hm : m + 2 < 4000) :
    Calls Tryz.prog 93 #[pt x1, pt x2, pt x3] W (Ans W B D O (layR r s.data.toList b) (m + 2)) :=
  layC_calls hD h.d h.n h.c h.no h.bytes h.own h.size hm h.len
set_option maxRecDepth 100000 in
theorem start_steps {d0 x1 x2 x3 y1 y2 y3 g : Nat} {s : ByteArray} {v v2 : Value} {b : List UInt8} (h : DAt W1 B D O r m) (hd : Blk W1 d0 39 #[dptr D]) (hdO : ¬ O d0) (hx : LayAt W1 D O x1 x2 x3 s v b) (hy : LayAt W1 D O y1 y2 y3 freshB v2 s.data.toList)
    (hg : Blk W1 g 88 #[fn0 93 #[pt x1, pt x2, pt x3], fn0 45 #[pt d0], fn0 93 #[pt y1, pt y2, pt y3], fn0 50 #[pt d0], .func (.func 52) #[dptr D] #[]]) (hgO : ¬ O g) (hm : m + 6 < 4000) :
    Calls Tryz.prog 47 #[.slice (some ⟨g, 0, none⟩) 5 5] W1 fun e w' => ∃ E, e = .returned (.int .i64 E) ∧ (E = (startS r s.data.toList b).2 ∧ DGo W1 B D O (startS r s.data.toList b).1 (m + 6) w') := by
  refine steps_calls [(93, #[], #[pt x1, pt x2, pt x3]), (45, #[], #[pt d0]), (93, #[], #[pt y1, pt y2, pt y3]), (50, #[], #[pt d0]), (52, #[dptr D], #[])] g W1
    (stJ W1 B D m O r s.data.toList b) (fun E W' => E = (startS r s.data.toList b).2 ∧ DGo W1 B D O (startS r s.data.toList b).1 (m + 6) W') ?_ ?_ ?_ ?_ (DGo.refl h) (by simp)
  · intro x hx
    simp only [List.mem_cons, List.not_mem_nil, or_false] at hx
    rcases hx with rfl | rfl | rfl | rfl | rfl
    · exact enters_of Tryz.func93 (by kernel_rfl) rfl
    · exact enters_of Tryz.func45 (by kernel_rfl) rfl
    · exact enters_of Tryz.func93 (by kernel_rfl) rfl
    · exact enters_of Tryz.func50 (by kernel_rfl) rfl
    · exact enters_of Tryz.func52 (by kernel_rfl) rfl
  · intro i W' hJ x hx
    obtain ⟨r', m', hgo⟩ := stJ_go hJ
    rw [(hgo.blk hg hgO).cell]
    match i, hx with
    | 0, hx => obtain rfl := Option.some.inj hx; rfl
    | 1, hx => obtain rfl := Option.some.inj hx; rfl
    | 2, hx => obtain rfl := Option.some.inj hx; rfl
    | 3, hx => obtain rfl := Option.some.inj hx; rfl
    | 4, hx => obtain rfl := Option.some.inj hx; rfl
  · intro i x W' hxi hJ
    match i, hxi, hJ with
    | 0, hxi, hJ =>
      obtain rfl := Option.some.inj hxi
      have hJ0 : DGo W1 B D O r m W' := hJ
      obtain ⟨O1, hD, hsub, hk⟩ := id hJ0
      refine ((hx.step hsub hk).calls hD (by omega)).mono ?_
      rintro e w' ⟨rfl, hg2⟩
      have hT := DGo.step hsub hk hg2
      refine ⟨_, rfl, fun hE => ?_, fun hE => ⟨hE, hT⟩⟩
      unfold startS
      rw [if_pos (show (startA r s.data.toList b).2 ≠ 0 from hE)]
      exact ⟨rfl, hT.more (by omega)⟩
    | 1, hxi, hJ =>
      obtain rfl := Option.some.inj hxi
      obtain ⟨e1, hJ1⟩ : (startA r s.data.toList b).2 = 0 ∧ DGo W1 B D O (startA r s.data.toList b).1 (m + 2) W' := hJ
      obtain ⟨O1, hD, hsub, hk⟩ := id hJ1
      refine (old_calls hD (hJ1.blk hd hdO) (by omega)).mono ?_
      rintro e w' ⟨rfl, hg2⟩
      have hT := DGo.step hsub hk hg2
      refine ⟨_, rfl, fun hE => ?_, fun hE => ⟨e1, hE, hT⟩⟩
      unfold startS
      rw [if_neg (by rw [e1]; simp), if_pos (show (startB r s.data.toList b).2 ≠ 0 from hE)]
      exact ⟨rfl, hT.more (by omega)⟩
    | 2, hxi, hJ =>
      obtain rfl := Option.some.inj hxi
      obtain ⟨e1, e2, hJ1⟩ : (startA r s.data.toList b).2 = 0 ∧ (startB r s.data.toList b).2 = 0 ∧ DGo W1 B D O (startB r s.data.toList b).1 (m + 3) W' := hJ
      obtain ⟨O1, hD, hsub, hk⟩ := id hJ1
      refine ((hy.step hsub hk).calls hD (by omega)).mono ?_
      rintro e w' ⟨rfl, hg2⟩
      have hT := DGo.step hsub hk hg2
      refine ⟨_, rfl, fun hE => ?_, fun hE => ⟨e1, e2, hE, hT⟩⟩
      unfold startS
      rw [if_neg (by rw [e1]; simp), if_neg (by rw [e2]; simp), if_pos (show (startC r s.data.toList b).2 ≠ 0 from hE)]
      exact ⟨rfl, hT.more (by omega)⟩
    | 3, hxi, hJ =>
      obtain rfl := Option.some.inj hxi
      obtain ⟨e1, e2, e3, hJ1⟩ : (startA r s.data.toList b).2 = 0 ∧ (startB r s.data.toList b).2 = 0 ∧ (startC r s.data.toList b).2 = 0 ∧ DGo W1 B D O (startC r s.data.toList b).1 (m + 5) W' := hJ
      obtain ⟨O1, hD, hsub, hk⟩ := id hJ1
      refine (ren_calls hD (hJ1.blk hd hdO) (by omega)).mono ?_
      rintro e w' ⟨rfl, hg2⟩
      have hT := DGo.step hsub hk hg2
      refine ⟨_, rfl, fun hE => ?_, fun hE => ⟨e1, e2, e3, hE, hT⟩⟩
      unfold startS
      rw [if_neg (by rw [e1]; simp), if_neg (by rw [e2]; simp), if_neg (by rw [e3]; simp), if_pos (show (startD r s.data.toList b).2 ≠ 0 from hE)]
      exact ⟨rfl, hT.more (by omega)⟩
    | 4, hxi, hJ =>
      obtain rfl := Option.some.inj hxi
      obtain ⟨e1, e2, e3, e4, hJ1⟩ : (startA r s.data.toList b).2 = 0 ∧ (startB r s.data.toList b).2 = 0 ∧ (startC r s.data.toList b).2 = 0 ∧ (startD r s.data.toList b).2 = 0 ∧ DGo W1 B D O (startD r s.data.toList b).1 (m + 6) W' := hJ
      obtain ⟨O1, hD, hsub, hk⟩ := id hJ1
      refine (syncDir_do hD).mono ?_
      rintro e w' ⟨rfl, hg2⟩
      have hT := DGo.step hsub hk hg2
      refine ⟨_, rfl, fun hE => ?_, fun hE => ⟨e1, e2, e3, e4, hE, hT⟩⟩
      unfold startS
      rw [if_neg (by rw [e1]; simp), if_neg (by rw [e2]; simp), if_neg (by rw [e3]; simp), if_neg (by rw [e4]; simp)]
      exact ⟨rfl, hT⟩
  · intro W' hJ
    have hJ5 : stJ W1 B D m O r s.data.toList b 5 W' := hJ
    obtain ⟨e1, e2, e3, e4, e5, hgo⟩ := hJ5
    unfold startS
    rw [if_neg (by rw [e1]; simp), if_neg (by rw [e2]; simp), if_neg (by rw [e3]; simp), if_neg (by rw [e4]; simp)]
    exact ⟨e5.symm, hgo⟩
end
end Go.Proofs.YtabcdodjkfknlaaGreatDoor
namespace Go.Proofs.YtabcdodjkfknlaaGreatDoor
open Go.RowKit
set_option maxHeartbeats 1000000 in
set_option maxRecDepth 100000 in
theorem lay_calls {D : Nat} (s : ByteArray) (p : Option Addr) (n c : Nat) (w : World) :
    Calls Tryz.prog 48 #[dptr D, .string s, .slice p n c] w fun e w' => e = .returned (fn0 93 #[pt w.heap.size, pt (w.heap.size + 1), pt (w.heap.size + 2)]) ∧ Blk w' w.heap.size 39 #[dptr D] ∧ Blk w' (w.heap.size + 1) 9 #[.string s] ∧ Blk w' (w.heap.size + 2) 43 #[.slice p n c] ∧ Below w.heap.size w w' := by
  obtain ⟨W3, hW3⟩ : ∃ W3, ((w.alloc (.cells #[dptr D] 39)).alloc (.cells #[.string s] 9)).alloc (.cells #[.slice p n c] 43) = W3 := ⟨_, rfl⟩
  have b1 : Blk W3 w.heap.size 39 #[dptr D] := by rw [← hW3]; exact ((Blk.new w _ _).alloc _).alloc _
  have b2 : Blk W3 (w.heap.size + 1) 9 #[.string s] := by rw [← hW3]; have := Blk.new (w.alloc (.cells #[dptr D] 39)) 9 #[.string s]; rw [World.size_alloc] at this; exact this.alloc _
  have b3 : Blk W3 (w.heap.size + 2) 43 #[.slice p n c] := by rw [← hW3]; have := Blk.new ((w.alloc (.cells #[dptr D] 39)).alloc (.cells #[.string s] 9)) 43 #[.slice p n c]; rw [World.size_alloc, World.size_alloc] at this; exact this
  have hB : Below w.heap.size w W3 := by rw [← hW3]; exact (((Below.refl _ w).alloc (Nat.le_refl _) _).alloc (by simp) _).alloc (by simp; omega) _
  have b1' := Lib.hid b1
  have b2' := Lib.hid b2
  have b3' := Lib.hid b3
  have hB' := Lib.hid hB
  clear b1 b2 b3 hB
  go_enter Tryz.func48, Tryz.ntmps48
  go_wp2
  go_ret
  exact ⟨rfl, b1'.out, b2'.out, b3'.out, hB'.out⟩
end Go.Proofs.YtabcdodjkfknlaaGreatDoor
