/- Walks: what Start does to a disk. A statement that draws its order, walked in few orders: what only reads is taken first; of the others one comes, or one of two. Walks: lay. -/
import Derived.Test.YtabcdodjkfknlaaGreatDoorPN23
import Derived.Test.YtabcdodjkfknlaaGreatDoorPN14
namespace Go.Proofs.YtabcdodjkfknlaaGreatDoor
open Go.RowKit
def startA (r : RD) (name b : List UInt8) : RD × Int := layR r name b
def startB (r : RD) (name b : List UInt8) : RD × Int := oldR (startA r name b).1
def startC (r : RD) (name b : List UInt8) : RD × Int := layR (startB r name b).1 freshL name
def startD (r : RD) (name b : List UInt8) : RD × Int := ((startC r name b).1.rename freshL currentL, (startC r name b).1.renameE freshL currentL)
def startE (r : RD) (name b : List UInt8) : RD × Int := ((startD r name b).1.syncDir, (startD r name b).1.syncDirE)
/-- what Start does to a disk -/
def startS (r : RD) (name b : List UInt8) : RD × Int :=
  if (startA r name b).2 ≠ 0 then startA r name b else
  if (startB r name b).2 ≠ 0 then startB r name b else
  if (startC r name b).2 ≠ 0 then startC r name b else
  if (startD r name b).2 ≠ 0 then startD r name b else startE r name b
section
variable {W1 : World} {B D m : Nat} {O : Nat → Prop} {r : RD}
def stJ (W1 : World) (B D m : Nat) (O : Nat → Prop) (r : RD) (s b : List UInt8) (k : Nat) (W' : World) : Prop :=
  match k with
  | 0 => DGo W1 B D O r m W'
  | 1 => (startA r s b).2 = 0 ∧ DGo W1 B D O (startA r s b).1 (m + 2) W'
  | 2 => (startA r s b).2 = 0 ∧ (startB r s b).2 = 0 ∧ DGo W1 B D O (startB r s b).1 (m + 3) W'
  | 3 => (startA r s b).2 = 0 ∧ (startB r s b).2 = 0 ∧ (startC r s b).2 = 0 ∧ DGo W1 B D O (startC r s b).1 (m + 5) W'
  | 4 => (startA r s b).2 = 0 ∧ (startB r s b).2 = 0 ∧ (startC r s b).2 = 0 ∧ (startD r s b).2 = 0 ∧ DGo W1 B D O (startD r s b).1 (m + 6) W'
  | 5 => (startA r s b).2 = 0 ∧ (startB r s b).2 = 0 ∧ (startC r s b).2 = 0 ∧ (startD r s b).2 = 0 ∧ (startE r s b).2 = 0 ∧ DGo W1 B D O (startE r s b).1 (m + 6) W'
  | _ => False
theorem stJ_go {W' : World} {b l : List UInt8} {k : Nat} (h : stJ W1 B D m O r l b k W') : ∃ r' m', DGo W1 B D O r' m' W' := by
  match k, h with
  | 0, h => exact ⟨_, _, h⟩
  | 1, h => exact ⟨_, _, h.2⟩
  | 2, h => exact ⟨_, _, h.2.2⟩
  | 3, h => exact ⟨_, _, h.2.2.2⟩
  | 4, h => exact ⟨_, _, h.2.2.2.2⟩
  | 5, h => exact ⟨_, _, h.2.2.2.2.2⟩
abbrev fn0 (F : Nat) (caps : Array Value) : Value := .func (.func F) #[] caps
abbrev pt (g : Nat) : Value := .pointer (some ⟨g, 0, none⟩)
/-- what a closure of lay holds -/
structure LayAt (W : World) (D : Nat) (O : Nat → Prop) (x1 x2 x3 : Nat) (s : ByteArray) (v : Value) (b : List UInt8) : Prop where
  d : Blk W x1 39 #[dptr D]
  n : Blk W x2 9 #[.string s]
  c : Blk W x3 43 #[v]
  no : ¬ O x1 ∧ ¬ O x2 ∧ ¬ O x3
  bytes : Bytes W v b
  own : ∀ g, v.ownBlock = some g → b ≠ [] → ¬ O g ∧ g < W.heap.size
  size : s.size ≤ maxLen
  len : b.length ≤ 65536
theorem LayAt.step {W W' : World} {O1 : Nat → Prop} {x1 x2 x3 : Nat} {s : ByteArray} {v : Value} {b : List UInt8} (h : LayAt W D O x1 x2 x3 s v b) (hs : ∀ j, O1 j → O j ∨ W.heap.size ≤ j) (hk : Keeps O W W') : LayAt W' D O1 x1 x2 x3 s v b := by
  obtain ⟨h1, h2, h3, ⟨n1, n2, n3⟩, h5, h6, h7, h8⟩ := h
  have l1 := h1.lt
  have l2 := h2.lt
  have l3 := h3.lt
  have hn : ∀ g, ¬ O g → g < W.heap.size → ¬ O1 g := fun g a b e => (hs g e).elim a fun h => by omega
  exact ⟨h1.keeps hk n1, h2.keeps hk n2, h3.keeps hk n3, ⟨hn _ n1 l1, hn _ n2 l2, hn _ n3 l3⟩, h5.keepsP hk fun g hg hb => (h6 g hg hb).1, fun g hg hb => ⟨hn g (h6 g hg hb).1 (h6 g hg hb).2, Nat.lt_of_lt_of_le (h6 g hg hb).2 hk.size⟩, h7, h8⟩
theorem LayAt.calls {W : World} {x1 x2 x3 : Nat} {s : ByteArray} {v : Value} {b : List UInt8} (h : LayAt W D O x1 x2 x3 s v b) (hD : DAt W B D O r m) (hm : m + 2 < 4000) :
    Calls Tryz.prog 93 #[pt x1, pt x2, pt x3] W (Ans W B D O (layR r s.data.toList b) (m + 2)) :=
  layC_calls hD h.d h.n h.c h.no h.bytes h.own h.size hm h.len
set_option maxRecDepth 100000 in
theorem start_steps {d0 x1 x2 x3 y1 y2 y3 g : Nat} {s : ByteArray} {v v2 : Value} {b : List UInt8} (h : DAt W1 B D O r m) (hd : Blk W1 d0 39 #[dptr D]) (hdO : ¬ O d0) (hx : LayAt W1 D O x1 x2 x3 s v b) (hy : LayAt W1 D O y1 y2 y3 freshB v2 s.data.toList)
    (hg : Blk W1 g 88 #[fn0 93 #[pt x1, pt x2, pt x3], fn0 45 #[pt d0], fn0 93 #[pt y1, pt y2, pt y3], fn0 50 #[pt d0], .func (.func 52) #[dptr D] #[]]) (hgO : ¬ O g) (hm : m + 6 < 4000) :
    Calls Tryz.prog 47 #[.slice (some ⟨g, 0, none⟩) 5 5] W1 fun e w' => ∃ E, e = .returned (.int .i64 E) ∧ (E = (startS r s.data.toList b).2 ∧ DGo W1 B D O (startS r s.data.toList b).1 (m + 6) w') := by
  refine steps_calls [(93, #[], #[pt x1, pt x2, pt x3]), (45, #[], #[pt d0]), (93, #[], #[pt y1, pt y2, pt y3]), (50, #[], #[pt d0]), (52, #[dptr D], #[])] g W1
    (stJ W1 B D m O r s.data.toList b) (fun E W' => E = (startS r s.data.toList b).2 ∧ DGo W1 B D O (startS r s.data.toList b).1 (m + 6) W') ?_ ?_ ?_ ?_ (DGo.refl h) (by simp)
  · intro x hx
    simp only [List.mem_cons, List.not_mem_nil, or_false] at hx
    rcases hx with rfl | rfl | rfl | rfl | rfl
    · exact enters_of Tryz.func93 (by kernel_rfl) rfl
    · exact enters_of Tryz.func45 (by kernel_rfl) rfl
    · exact enters_of Tryz.func93 (by kernel_rfl) rfl
    · exact enters_of Tryz.func50 (by kernel_rfl) rfl
    · exact enters_of Tryz.func52 (by kernel_rfl) rfl
  · intro i W' hJ x hx
    obtain ⟨r', m', hgo⟩ := stJ_go hJ
    rw [(hgo.blk hg hgO).cell]
    match i, hx with
    | 0, hx => obtain rfl := Option.some.inj hx; rfl
    | 1, hx => obtain rfl := Option.some.inj hx; rfl
    | 2, hx => obtain rfl := Option.some.inj hx; rfl
    | 3, hx => obtain rfl := Option.some.inj hx; rfl
    | 4, hx => obtain rfl := Option.some.inj hx; rfl
  · intro i x W' hxi hJ
    match i, hxi, hJ with
    | 0, hxi, hJ =>
      obtain rfl := Option.some.inj hxi
      have hJ0 : DGo W1 B D O r m W' := hJ
      obtain ⟨O1, hD, hsub, hk⟩ := id hJ0
      refine ((hx.step hsub hk).calls hD (by omega)).mono ?_
      rintro e w' ⟨rfl, hg2⟩
      have hT := DGo.step hsub hk hg2
      refine ⟨_, rfl, fun hE => ?_, fun hE => ⟨hE, hT⟩⟩
      unfold startS
      rw [if_pos (show (startA r s.data.toList b).2 ≠ 0 from hE)]
      exact ⟨rfl, hT.more (by omega)⟩
    | 1, hxi, hJ =>
      obtain rfl := Option.some.inj hxi
      obtain ⟨e1, hJ1⟩ : (startA r s.data.toList b).2 = 0 ∧ DGo W1 B D O (startA r s.data.toList b).1 (m + 2) W' := hJ
      obtain ⟨O1, hD, hsub, hk⟩ := id hJ1
      refine (old_calls hD (hJ1.blk hd hdO) (by omega)).mono ?_
      rintro e w' ⟨rfl, hg2⟩
      have hT := DGo.step hsub hk hg2
      refine ⟨_, rfl, fun hE => ?_, fun hE => ⟨e1, hE, hT⟩⟩
      unfold startS
      rw [if_neg (by rw [e1]; simp), if_pos (show (startB r s.data.toList b).2 ≠ 0 from hE)]
      exact ⟨rfl, hT.more (by omega)⟩
    | 2, hxi, hJ =>
      obtain rfl := Option.some.inj hxi
      obtain ⟨e1, e2, hJ1⟩ : (startA r s.data.toList b).2 = 0 ∧ (startB r s.data.toList b).2 = 0 ∧ DGo W1 B D O (startB r s.data.toList b).1 (m + 3) W' := hJ
      obtain ⟨O1, hD, hsub, hk⟩ := id hJ1
      refine ((hy.step hsub hk).calls hD (by omega)).mono ?_
      rintro e w' ⟨rfl, hg2⟩
      have hT := DGo.step hsub hk hg2
      refine ⟨_, rfl, fun hE => ?_, fun hE => ⟨e1, e2, hE, hT⟩⟩
      unfold startS
      rw [if_neg (by rw [e1]; simp), if_neg (by rw [e2]; simp), if_pos (show (startC r s.data.toList b).2 ≠ 0 from hE)]
      exact ⟨rfl, hT.more (by omega)⟩
    | 3, hxi, hJ =>
      obtain rfl := Option.some.inj hxi
      obtain ⟨e1, e2, e3, hJ1⟩ : (startA r s.data.toList b).2 = 0 ∧ (startB r s.data.toList b).2 = 0 ∧ (startC r s.data.toList b).2 = 0 ∧ DGo W1 B D O (startC r s.data.toList b).1 (m + 5) W' := hJ
      obtain ⟨O1, hD, hsub, hk⟩ := id hJ1
      refine (ren_calls hD (hJ1.blk hd hdO) (by omega)).mono ?_
      rintro e w' ⟨rfl, hg2⟩
      have hT := DGo.step hsub hk hg2
      refine ⟨_, rfl, fun hE => ?_, fun hE => ⟨e1, e2, e3, hE, hT⟩⟩
      unfold startS
      rw [if_neg (by rw [e1]; simp), if_neg (by rw [e2]; simp), if_neg (by rw [e3]; simp), if_pos (show (startD r s.data.toList b).2 ≠ 0 from hE)]
      exact ⟨rfl, hT.more (by omega)⟩
    | 4, hxi, hJ =>
      obtain rfl := Option.some.inj hxi
      obtain ⟨e1, e2, e3, e4, hJ1⟩ : (startA r s.data.toList b).2 = 0 ∧ (startB r s.data.toList b).2 = 0 ∧ (startC r s.data.toList b).2 = 0 ∧ (startD r s.data.toList b).2 = 0 ∧ DGo W1 B D O (startD r s.data.toList b).1 (m + 6) W' := hJ
      obtain ⟨O1, hD, hsub, hk⟩ := id hJ1
      refine (syncDir_do hD).mono ?_
      rintro e w' ⟨rfl, hg2⟩
      have hT := DGo.step hsub hk hg2
      refine ⟨_, rfl, fun hE => ?_, fun hE => ⟨e1, e2, e3, e4, hE, hT⟩⟩
      unfold startS
      rw [if_neg (by rw [e1]; simp), if_neg (by rw [e2]; simp), if_neg (by rw [e3]; simp), if_neg (by rw [e4]; simp)]
      exact ⟨rfl, hT⟩
  · intro W' hJ
    have hJ5 : stJ W1 B D m O r s.data.toList b 5 W' := hJ
    obtain ⟨e1, e2, e3, e4, e5, hgo⟩ := hJ5
    unfold startS
    rw [if_neg (by rw [e1]; simp), if_neg (by rw [e2]; simp), if_neg (by rw [e3]; simp), if_neg (by rw [e4]; simp)]
    exact ⟨e5.symm, hgo⟩
end
end Go.Proofs.YtabcdodjkfknlaaGreatDoor
namespace Go.Proofs.YtabcdodjkfknlaaGreatDoor
open Go.RowKit
/-- a way through: the end; what is taken first; what comes because nothing else can; one of two -/
inductive Way where
  | done
  | take (i : Nat) (r : Way)
  | go (j : Nat) (r : Way)
  | both (j : Nat) (r : Way) (k : Nat) (s : Way)
def Way.len : Way → Nat
  | .done => 0
  | .take _ r => r.len + 1
  | .go _ r => r.len + 1
  | .both _ r _ s => max r.len s.len + 1
section
variable {P : Program} {ops : Array Oper} {Q : Exit → Act → World → Prop} {md : Region.Mode} {S : World → Prop} {E : Nat → Bool}
def okW (md : Region.Mode) (ops : Array Oper) (Es : List Nat) : Way → Array Bool → Bool
  | .done, listed => (Region.ready md ops listed).isEmpty
  | .take i r, listed => (Region.ready md ops listed).contains i && Region.free md ops listed i && !Es.contains i && Es.all (fun j => (ops[j]?).all fun oj => waitsFor md oj i && !listed.getD j true) && okW md ops Es r (listed.setIfInBounds i true)
  | .go j r, listed => (Region.ready md ops listed == [j]) && okW md ops Es r (listed.setIfInBounds j true)
  | .both j r k s, listed => (Region.ready md ops listed == [j, k]) && okW md ops Es r (listed.setIfInBounds j true) && okW md ops Es s (listed.setIfInBounds k true)
def wpW (P : Program) (ops : Array Oper) (Q : Exit → Act → World → Prop) (S : World → Prop) (Es : List Nat) : Way → Act → World → Prop
  | .done, a, w => Q .normal a w
  | .take i r, a, w => ∃ oi v, ops[i]? = some oi ∧ YieldsIf P ops S oi v a ∧ wpW P ops Q S Es r (a.put oi.dst v) w
  | .go j r, a, w => wpOp P ops Q j (fun a' w' => (Es.contains j = false → S w') ∧ wpW P ops Q S Es r a' w') a w
  | .both j r k s, a, w => wpOp P ops Q j (fun a' w' => (Es.contains j = false → S w') ∧ wpW P ops Q S Es r a' w') a w ∧ wpOp P ops Q k (fun a' w' => (Es.contains k = false → S w') ∧ wpW P ops Q S Es s a' w') a w
theorem wpW_take {Es : List Nat} {i : Nat} {r : Way} {d : Option Tmp} {op : Op} {ty : TypeId} {pos : String} {af : Array Edge} {g : Option (Nat × Bool)} {v : Value} {a : Act} {w : World} (hi : ops[i]? = some ⟨d, op, ty, pos, af, g⟩) (hy : YieldsIf P ops S ⟨d, op, ty, pos, af, g⟩ v a) (h : wpW P ops Q S Es r (a.put d v) w) : wpW P ops Q S Es (.take i r) a w := ⟨_, v, hi, hy, h⟩
theorem wpW_go {Es : List Nat} {j : Nat} {r : Way} {d : Option Tmp} {op : Op} {ty : TypeId} {pos : String} {af : Array Edge} {g : Option (Nat × Bool)} {a : Act} {w : World} (hj : ops[j]? = some ⟨d, op, ty, pos, af, g⟩) (h : wpList P ops (onNormal (fun a' w' => (Es.contains j = false → S w') ∧ wpW P ops Q S Es r a' w') Q) [⟨d, op, ty, pos, af, g⟩] a w) : wpW P ops Q S Es (.go j r) a w := wpOp_one hj h
theorem wpW_both {Es : List Nat} {j k : Nat} {r s : Way} {d : Option Tmp} {op : Op} {ty : TypeId} {pos : String} {af : Array Edge} {g : Option (Nat × Bool)} {d' : Option Tmp} {op' : Op} {ty' : TypeId} {pos' : String} {af' : Array Edge} {g' : Option (Nat × Bool)} {a : Act} {w : World} (hj : ops[j]? = some ⟨d, op, ty, pos, af, g⟩) (hk : ops[k]? = some ⟨d', op', ty', pos', af', g'⟩)
    (h : wpList P ops (onNormal (fun a' w' => (Es.contains j = false → S w') ∧ wpW P ops Q S Es r a' w') Q) [⟨d, op, ty, pos, af, g⟩] a w) (h' : wpList P ops (onNormal (fun a' w' => (Es.contains k = false → S w') ∧ wpW P ops Q S Es s a' w') Q) [⟨d', op', ty', pos', af', g'⟩] a w) : wpW P ops Q S Es (.both j r k s) a w := ⟨wpOp_one hj h, wpOp_one hk h'⟩
theorem wpW_done {Es : List Nat} {a : Act} {w : World} (h : Q .normal a w) : wpW P ops Q S Es .done a w := h
theorem ready_un {Es : List Nat} {listed : Array Bool} {i : Nat} {w : World} (hir : i ∈ Region.ready md ops listed) (h3 : Es.contains i = false → S w) (hno : ∀ j ∈ Es, (ops[j]?).isSome = true → (listed.setIfInBounds i true).getD j true = false) : S w := by
  cases hc : Es.contains i with
  | false => exact h3 hc
  | true =>
    have hiE : i ∈ Es := by simpa using hc
    obtain ⟨hjun, oj, hoj, _⟩ := mem_ready.1 hir
    have := hno i hiE (by rw [hoj]; rfl)
    have hlt : i < listed.size := by
      rcases Nat.lt_or_ge i listed.size with h' | h'
      · exact h'
      · rw [Array.getD, dif_neg (by omega)] at hjun; cases hjun
    rw [Array.getD, dif_pos (by simpa using hlt)] at this
    simp at this
theorem wpAnyX_of_w {Es : List Nat} (hsel : Region.noSelect ops = true) (hQ : ∀ c a t v w, Q (.panic c) (a.put (some t) v) w → Q (.panic c) a w) : ∀ (sc : Way) (fuel : Nat) (listed : Array Bool) (a : Act) (w : World),
    okW md ops Es sc listed = true → sc.len ≤ fuel → ((∀ j ∈ Es, (ops[j]?).isSome = true → listed.getD j true = false) → S w) → wpW P ops Q S Es sc a w → wpAnyX P md ops Q S (fun j => Es.contains j) fuel listed a w
  | .done, fuel, listed, a, w, hok, _, _, h => by
    have hr : Region.ready md ops listed = [] := List.isEmpty_iff.1 hok
    cases fuel with
    | zero => exact ⟨hr, h⟩
    | succ f => exact ⟨fun _ => h, by rw [hr]; simp⟩
  | .take i r, 0, listed, a, w, _, hf, _, _ => by simp [Way.len] at hf
  | .go i r, 0, listed, a, w, _, hf, _, _ => by simp [Way.len] at hf
  | .both i r k s, 0, listed, a, w, _, hf, _, _ => by simp [Way.len] at hf
  | .take i r, fuel + 1, listed, a, w, hok, hf, hS, h => by
    unfold okW at hok
    simp only [Bool.and_eq_true, Bool.not_eq_true', List.all_eq_true] at hok
    obtain ⟨⟨⟨⟨h1, h2⟩, h3⟩, h4⟩, h5⟩ := hok
    obtain ⟨oi, v, hi, hy, h⟩ := h
    have hun : ∀ j ∈ Es, (ops[j]?).isSome = true → listed.getD j true = false := by
      intro j hj hs
      obtain ⟨oj, ho⟩ := Option.isSome_iff_exists.1 hs
      have := h4 j hj
      rw [ho] at this
      simp only [Option.all_some, Bool.and_eq_true, Bool.not_eq_true'] at this
      exact this.2
    have hSw := hS hun
    refine wpAnyX_first hi (Region.noSelect_spec hsel) (fun c a w hh => by
      cases hd : oi.dst with
      | none => rw [hd] at hh; exact hh
      | some t => rw [hd] at hh; exact hQ c a t _ w hh) (fun j oj ho hj => ?_) h3 fuel listed a w (Region.free_spec hi h2) (by simpa using h1) hy hSw ?_
    · have := h4 j (by simpa using hj)
      rw [ho] at this
      simp only [Option.all_some, Bool.and_eq_true] at this
      exact this.1
    · exact wpAnyX_of_w hsel hQ r fuel _ _ _ h5 (by simp only [Way.len] at hf; omega) (fun _ => hSw) h
  | .go j r, fuel + 1, listed, a, w, hok, hf, _, h => by
    unfold okW at hok
    simp only [Bool.and_eq_true, beq_iff_eq] at hok
    obtain ⟨h1, h2⟩ := hok
    refine ⟨fun h0 => (by rw [h0] at h1; cases h1), fun i hi => ?_⟩
    have hir := hi
    rw [h1] at hi
    obtain rfl : i = j := by simpa using hi
    exact wpOp_mono (fun a' w' h3 => ⟨h3.1, wpAnyX_of_w hsel hQ r fuel _ a' w' h2 (by simp only [Way.len] at hf; omega) (fun hno => ready_un hir h3.1 hno) h3.2⟩) h
  | .both j r k s, fuel + 1, listed, a, w, hok, hf, _, h => by
    unfold okW at hok
    simp only [Bool.and_eq_true, beq_iff_eq] at hok
    obtain ⟨⟨h1, h2⟩, h2'⟩ := hok
    obtain ⟨h, h'⟩ := h
    refine ⟨fun h0 => (by rw [h0] at h1; cases h1), fun i hi => ?_⟩
    have hir := hi
    rw [h1] at hi
    rcases List.mem_cons.1 hi with e | e
    · subst e
      exact wpOp_mono (fun a' w' h3 => ⟨h3.1, wpAnyX_of_w hsel hQ r fuel _ a' w' h2 (by simp only [Way.len] at hf; omega) (fun hno => ready_un hir h3.1 hno) h3.2⟩) h
    · obtain rfl : i = k := by simpa using e
      exact wpOp_mono (fun a' w' h3 => ⟨h3.1, wpAnyX_of_w hsel hQ s fuel _ a' w' h2' (by simp only [Way.len] at hf; omega) (fun hno => ready_un hir h3.1 hno) h3.2⟩) h'
theorem wp_region_w {id : Nat} {a : Act} {w : World} (S : World → Prop) (Es : List Nat) (sc : Way) (hm : P.follows .mixedOrders = true) (hsel : Region.noSelect ops = true) (hok : okW .any ops Es sc (Array.replicate ops.size false) = true) (hlen : sc.len = ops.size)
    (hQ : ∀ c a t v w, Q (.panic c) (a.put (some t) v) w → Q (.panic c) a w) (hS : S w.drew) (h : wpW P ops Q S Es sc a w.drew) : (Code.region id ops true).wp P Q a w :=
  wp_region_any hm (wpAny_of_x _ _ _ _ (wpAnyX_of_w hsel hQ sc _ _ _ _ hok (Nat.le_of_eq hlen) (fun _ => hS) h))
end
end Go.Proofs.YtabcdodjkfknlaaGreatDoor
namespace Go.Proofs.YtabcdodjkfknlaaGreatDoor
open Go.RowKit
set_option maxHeartbeats 1000000 in
set_option maxRecDepth 100000 in
theorem lay_calls {D : Nat} (s : ByteArray) (p : Option Addr) (n c : Nat) (w : World) :
    Calls Tryz.prog 48 #[dptr D, .string s, .slice p n c] w fun e w' => e = .returned (fn0 93 #[pt w.heap.size, pt (w.heap.size + 1), pt (w.heap.size + 2)]) ∧ Blk w' w.heap.size 39 #[dptr D] ∧ Blk w' (w.heap.size + 1) 9 #[.string s] ∧ Blk w' (w.heap.size + 2) 43 #[.slice p n c] ∧ Below w.heap.size w w' := by
  obtain ⟨W3, hW3⟩ : ∃ W3, ((w.alloc (.cells #[dptr D] 39)).alloc (.cells #[.string s] 9)).alloc (.cells #[.slice p n c] 43) = W3 := ⟨_, rfl⟩
  have b1 : Blk W3 w.heap.size 39 #[dptr D] := by rw [← hW3]; exact ((Blk.new w _ _).alloc _).alloc _
  have b2 : Blk W3 (w.heap.size + 1) 9 #[.string s] := by rw [← hW3]; have := Blk.new (w.alloc (.cells #[dptr D] 39)) 9 #[.string s]; rw [World.size_alloc] at this; exact this.alloc _
  have b3 : Blk W3 (w.heap.size + 2) 43 #[.slice p n c] := by rw [← hW3]; have := Blk.new ((w.alloc (.cells #[dptr D] 39)).alloc (.cells #[.string s] 9)) 43 #[.slice p n c]; rw [World.size_alloc, World.size_alloc] at this; exact this
  have hB : Below w.heap.size w W3 := by rw [← hW3]; exact (((Below.refl _ w).alloc (Nat.le_refl _) _).alloc (by simp) _).alloc (by simp; omega) _
  have b1' := Lib.hid b1
  have b2' := Lib.hid b2
  have b3' := Lib.hid b3
  have hB' := Lib.hid hB
  clear b1 b2 b3 hB
  go_enter Tryz.func48, Tryz.ntmps48
  go_wp2
  go_ret
  exact ⟨rfl, b1'.out, b2'.out, b3'.out, hB'.out⟩
end Go.Proofs.YtabcdodjkfknlaaGreatDoor
