/- A tape of numbers in memory; what is made from it lies behind it. Walks: Next, rels. Rules as trees, schemas as rows of types, in memory: gathered, made, only read. -/
import Derived.Test.YtaikedlkkjnffaaGreatDoorRow
import Derived.Test.YtaikedlkkjnffaaGreatDoorProg
import Derived.BigQuiet
import Derived.IntWalk
import Derived.Lib.Hide
namespace Go.Proofs.YtaikedlkkjnffaaGreatDoor
open Go.RowKit
structure TapeIs (w : World) (tp : Nat) (pb : Option Addr) (nb cb i : Nat) : Prop where
  blk : Blk w tp 53 #[.slice pb nb cb, .int .i64 i]
  le : i ≤ nb
  len : nb ≤ 1000000
  byte : ∀ k, k < nb → ∃ (a : Addr) (b : Nat), pb = some a ∧ (a.add k).block < tp ∧ b < 256 ∧ w.cell? (a.add k) = some (.int .u8 b)
def TapeAt (w : World) (tp : Nat) : Prop := ∃ pb nb cb i, TapeIs w tp pb nb cb i
section
variable {S : Nat → Prop} {w w' : World} {tp : Nat} {pb : Option Addr} {nb cb i : Nat}
theorem Keeps.cell {p : Addr} (h : Keeps S w w') (hp : p.block < w.heap.size) (hs : ¬ S p.block) : w'.cell? p = w.cell? p := by
  unfold World.cell?
  rw [h.block _ hp hs]
theorem TapeIs.lt (h : TapeIs w tp pb nb cb i) : tp < w.heap.size := h.blk.lt
theorem TapeIs.keeps (h : TapeIs w tp pb nb cb i) (hk : Keeps S w w') (hs : ∀ j, j ≤ tp → ¬ S j) : TapeIs w' tp pb nb cb i :=
  ⟨h.blk.keeps hk (hs _ (Nat.le_refl _)), h.le, h.len, fun k hk' => by
    obtain ⟨a, b, h1, h2, h3, h4⟩ := h.byte k hk'
    exact ⟨a, b, h1, h2, h3, (hk.cell (by have := h.lt; omega) (hs _ (by omega))).trans h4⟩⟩
theorem TapeAt.keeps (h : TapeAt w tp) (hk : Keeps S w w') (hs : ∀ j, j ≤ tp → ¬ S j) : TapeAt w' tp := by
  obtain ⟨pb, nb, cb, i, h⟩ := h
  exact ⟨pb, nb, cb, i, h.keeps hk hs⟩
theorem TapeAt.lt (h : TapeAt w tp) : tp < w.heap.size := by obtain ⟨_, _, _, _, h⟩ := h; exact h.lt
theorem TapeAt.later (h : TapeAt w tp) (hb : Below w.heap.size w w') : TapeAt w' tp := h.keeps (S := fun _ => False) (.of_below hb) (fun _ _ => id)
end
/-- all stands but the tape's place -/
abbrev OnTape (tp : Nat) (w w' : World) : Prop := Keeps (fun j => j = tp) w w'
def NextSaid (n tp : Nat) (w : World) (e : Ending) (w' : World) : Prop := ∃ k : Nat, e = .returned (.int .i64 k) ∧ (k < n ∨ k = 0) ∧ TapeAt w' tp ∧ OnTape tp w w'
set_option maxHeartbeats 2000000 in
theorem next_calls (n tp : Nat) (w : World) (hn : n ≤ 1000000) (h : TapeAt w tp) :
    Calls Tryz.prog 37 #[.pointer (some ⟨tp, 0, none⟩), .int .i64 n] w (NextSaid n tp w) := by
  obtain ⟨pb, nb, cb, i, h⟩ := h
  have hc := h.blk.cell
  have hf := h.blk.frozen
  have hlt := h.lt
  have hle := h.le
  have hlen := h.len
  by_cases h2 : n < 2
  · have hd : decide ((n : Int) < 2) = true := decide_eq_true (by omega)
    have h' := Lib.hid h
    clear h hlen hle hf
    go_enter Tryz.func37, Tryz.ntmps37
    go_wp2_with fail
    go_quiet (fail)
    go_wp2_with fail
    go_ret
    exact ⟨0, rfl, .inr rfl, ⟨_, _, _, _, h'.out.keeps ((Keeps.refl (fun _ => False) w).drewN nq) (fun _ _ => id)⟩, (Keeps.refl _ _).drewN nq⟩
  · have hd : decide ((n : Int) < 2) = false := decide_eq_false (by omega)
    by_cases hi : nb ≤ i
    · have hd2 : decide ((i : Int) ≥ (nb : Int)) = true := decide_eq_true (by omega)
      have h' := Lib.hid h
      clear h hlen hle hf
      go_enter Tryz.func37, Tryz.ntmps37
      go_wp2_with fail
      go_quiet (fail)
      go_wp2_with fail
      go_ret
      exact ⟨0, rfl, .inr rfl, ⟨_, _, _, _, h'.out.keeps ((Keeps.refl (fun _ => False) w).drewN nq) (fun _ _ => id)⟩, (Keeps.refl _ _).drewN nq⟩
    · have hd2 : decide ((i : Int) ≥ (nb : Int)) = false := decide_eq_false (by omega)
      obtain ⟨a, b, rfl, hal, hb, hbc⟩ := h.byte i (by omega)
      have h' := Lib.hid h
      clear h
      go_enter Tryz.func37, Tryz.ntmps37
      go_wp2_with fail
      go_quiet (fail)
      go_wp2_with fail
      obtain ⟨w1, e1⟩ : ∃ w1, (w.drewN nq).setCell ⟨tp, 1, none⟩ (.int .i64 ((i : Int) + 1)) = w1 := ⟨_, rfl⟩
      rw [e1]
      have K1 : OnTape tp w w1 := by rw [← e1]; exact ((Keeps.refl (fun j => j = tp) w).drewN nq).setCell (p := ⟨tp, 1, none⟩) (.inl rfl) _
      have X1 : Blk w1 tp 53 #[.slice (some a) nb cb, .int .i64 ((i : Int) + 1)] := by
        rw [← e1]; exact (h'.out.blk.drewN nq).set_ 1 (.int .i64 ((i : Int) + 1))
      have hb1 : w1.cell? (a.add i) = some (.int .u8 b) := (K1.cell (by omega) (by omega)).trans hbc
      have T1 : TapeAt w1 tp := ⟨_, _, _, i + 1, X1, by omega, hlen, fun k hk => by
        obtain ⟨a', b', e, h3, h4, h5⟩ := h'.out.byte k hk
        exact ⟨a', b', e, h3, h4, (K1.cell (by omega) (by omega)).trans h5⟩⟩
      have hc1 := X1.cell
      have hsub : (i : Int) + 1 - 1 = i := by omega
      have hwr : IntKind.i64.wrap ((i : Int) + 1 - 1) = i := by rw [IntWalk.i64_in _ (by omega)]; omega
      have K1' := Lib.hid K1
      have T1' := Lib.hid T1
      clear e1 hc hf hbc h' K1 X1 T1 hd hd2
      go_wp2_with fail
      go_quiet (fail)
      have hmod : ((b : Int) % (n : Int)) = ((b % n : Nat) : Int) := by simp
      rw [hmod]
      have hk : b % n < n := Nat.mod_lt _ (by omega)
      generalize b % n = k at hk
      go_wp2_with fail
      go_ret
      exact ⟨k, rfl, .inl hk, T1'.out.keeps ((Keeps.refl (fun _ => False) w1).drewN nq) (fun _ _ => id), K1'.out.drewN nq⟩
set_option maxHeartbeats 1000000 in
theorem rels_calls (w : World) :
    Calls Tryz.prog 38 #[] w fun e w' => ∃ g, e = .returned (.slice (some ⟨g, 0, none⟩) 4 4) ∧ Blk w' g 9 #[.string ⟨#[118, 105, 101, 119, 101, 114]⟩, .string ⟨#[111, 119, 110, 101, 114]⟩, .string ⟨#[112, 97, 114, 101, 110, 116]⟩, .string ⟨#[109, 101, 109, 98, 101, 114]⟩] ∧ w.heap.size ≤ g ∧ Below w.heap.size w w' := by
  go_enter Tryz.func38, Tryz.ntmps38
  go_wp2_with fail
  go_ret
  exact ⟨w.heap.size, rfl, Blk.new _ _ _, Nat.le_refl _, (Below.refl _ _).alloc (Nat.le_refl _) _⟩
end Go.Proofs.YtaikedlkkjnffaaGreatDoor
namespace Go.Proofs.YtaikedlkkjnffaaGreatDoor
open Go.RowKit
def strV (l : List UInt8) : Value := .string ⟨l.toArray⟩
theorem toArr (s : ByteArray) : (⟨s.data.toList.toArray⟩ : ByteArray) = s := by simp
theorem strV_mk (s : ByteArray) : Value.string s = strV s.data.toList := by
  unfold strV; rw [toArr]
inductive RT where
  | node (kind : Int) (a b : List UInt8) (parts : List RT)
def RT.kind : RT → Int | .node k _ _ _ => k
def RT.parts : RT → List RT | .node _ _ _ p => p
/-- a rule's cells; each row of its tree lies in a block of P -/
inductive RAt (P : Nat → Prop) (w : World) : List Value → RT → Prop
  | mk {k : Int} {a b : List UInt8} {v : Value} {ps : List RT} {cs : List Value} (hrow : RowAt w 100 v ps.length cs) (hP : ∀ g, v.ownBlock = some g → P g) (hlen : cs.length = ps.length * 4) (hparts : ∀ (i : Nat) (p : RT), ps[i]? = some p → RAt P w ((cs.drop (i * 4)).take 4) p) : RAt P w [.int .i64 k, strV a, strV b, v] (.node k a b ps)
/-- the cells of several rules -/
structure PartsAt (P : Nat → Prop) (w : World) (cs : List Value) (ps : List RT) : Prop where
  len : cs.length = ps.length * 4
  part : ∀ (i : Nat) (p : RT), ps[i]? = some p → RAt P w ((cs.drop (i * 4)).take 4) p
section
variable {P Q S : Nat → Prop} {w w' : World} {cs cs' : List Value} {r : RT} {ps ps' : List RT}
theorem RAt.mono (h : RAt P w cs r) (hP : ∀ j, P j → j < w.heap.size → Q j) : RAt Q w cs r := by
  induction h with
  | mk hrow hp hlen _ ih => exact .mk hrow (fun g hg => hP g (hp g hg) (hrow.lt g hg)) hlen fun i p hi => ih i p hi
theorem RAt.keeps (h : RAt P w cs r) (hk : Keeps S w w') (hs : ∀ j, P j → j < w.heap.size → ¬ S j) : RAt P w' cs r := by
  induction h with
  | mk hrow hp hlen _ ih => exact .mk (hrow.keeps hk fun g hg => hs g (hp g hg) (hrow.lt g hg)) hp hlen fun i p hi => ih i p hi
theorem RAt.later (h : RAt P w cs r) (hb : Below w.heap.size w w') : RAt P w' cs r := h.keeps (S := fun _ => False) (.of_below hb) fun _ _ _ => id
theorem PartsAt.nil : PartsAt P w [] [] := ⟨rfl, fun i p h => by simp at h⟩
theorem PartsAt.mono (h : PartsAt P w cs ps) (hP : ∀ j, P j → j < w.heap.size → Q j) : PartsAt Q w cs ps := ⟨h.len, fun i p hi => (h.part i p hi).mono hP⟩
theorem PartsAt.keeps (h : PartsAt P w cs ps) (hk : Keeps S w w') (hs : ∀ j, P j → j < w.heap.size → ¬ S j) : PartsAt P w' cs ps := ⟨h.len, fun i p hi => (h.part i p hi).keeps hk hs⟩
theorem PartsAt.later (h : PartsAt P w cs ps) (hb : Below w.heap.size w w') : PartsAt P w' cs ps := h.keeps (S := fun _ => False) (.of_below hb) fun _ _ _ => id
theorem PartsAt.app (h : PartsAt P w cs ps) (h' : PartsAt P w cs' ps') : PartsAt P w (cs ++ cs') (ps ++ ps') := by
  refine ⟨by rw [List.length_append, List.length_append, h.len, h'.len, Nat.add_mul], fun i p hi => ?_⟩
  by_cases hlt : i < ps.length
  · rw [List.getElem?_append_left hlt] at hi
    have h1 := h.part i p hi
    rw [List.drop_append_of_le_length (by rw [h.len]; omega), List.take_append_of_le_length (by rw [List.length_drop, h.len]; omega)]
    exact h1
  · rw [List.getElem?_append_right (by omega)] at hi
    have h1 := h'.part _ p hi
    have e : i * 4 = cs.length + (i - ps.length) * 4 := by rw [h.len, Nat.sub_mul]; omega
    rw [e, ← List.drop_drop, List.drop_left]
    exact h1
theorem RAt.len (h : RAt P w cs r) : cs.length = 4 := by cases h; rfl
theorem RAt.one (h : RAt P w cs r) : PartsAt P w cs [r] := by
  refine ⟨by rw [h.len]; rfl, fun i p hi => ?_⟩
  match i, hi with
  | 0, hi =>
    obtain rfl := Option.some.inj hi
    rw [Nat.zero_mul, List.drop_zero, List.take_of_length_le (by rw [h.len]; exact Nat.le_refl _)]
    exact h
theorem RAt.parts_ {k : Value} {a b v : Value} (h : RAt P w [k, a, b, v] r) : ∃ cs, RowAt w 100 v r.parts.length cs ∧ (∀ g, v.ownBlock = some g → P g) ∧ PartsAt P w cs r.parts ∧ k = .int .i64 r.kind := by
  cases h with
  | mk hrow hP hlen hparts => exact ⟨_, hrow, hP, ⟨hlen, hparts⟩, rfl⟩
end
theorem RAt.form {P : Nat → Prop} {w : World} {cs : List Value} {r : RT} (h : RAt P w cs r) : ∃ (k : Int) (a b : ByteArray) (p : Option Addr) (n c : Nat), cs = [.int .i64 k, .string a, .string b, .slice p n c] ∧ r.kind = k := by
  cases h with
  | mk hrow _ _ _ =>
    obtain ⟨p, c, rfl⟩ := hrow.slice
    exact ⟨_, _, _, _, _, _, rfl, rfl⟩
theorem info_rule : (Tryz.prog.info? 100).map (fun i => (i.zero, i.size, i.bytes)) = some (some (.agg #[.int .i64 0, .string ⟨#[]⟩, .string ⟨#[]⟩, .slice none 0 0]), 4, 64) := by kernel_rfl
theorem info_parts {P : Program} {t : TypeId} {z : Value} {n b : Nat} (h : (P.info? t).map (fun i => (i.zero, i.size, i.bytes)) = some (some z, n, b)) : ∃ i, P.info? t = some i ∧ i.zero = some z ∧ i.size = n ∧ i.bytes = b := by
  cases hi : P.info? t with
  | none => rw [hi] at h; cases h
  | some i =>
    rw [hi] at h
    have := Option.some.inj h
    exact ⟨i, rfl, congrArg (·.1) this, congrArg (·.2.1) this, congrArg (·.2.2) this⟩
section
variable {P : Nat → Prop} {w : World} {cs ds : List Value} {r : RT} {ps : List RT}
theorem RAt.one_cell (h : RAt P w cs r) : ∀ u ∈ cs, u.oneCell' = true := by
  obtain ⟨k, a, b, p, n, c, rfl, _⟩ := h.form
  intro u hu
  simp at hu
  rcases hu with rfl | rfl | rfl | rfl <;> rfl
theorem PartsAt.one_cell (h : PartsAt P w cs ps) : ∀ u ∈ cs, u.oneCell' = true := by
  intro u hu
  obtain ⟨j, hj, hju⟩ := List.mem_iff_getElem.1 hu
  have hlt : j / 4 < ps.length := by have := h.len; omega
  have h1 := h.part (j / 4) ps[j / 4] (List.getElem?_eq_getElem hlt)
  refine h1.one_cell u ?_
  rw [List.mem_iff_getElem?]
  refine ⟨j % 4, ?_⟩
  rw [List.getElem?_take_of_lt (Nat.mod_lt _ (by decide)), List.getElem?_drop, show j / 4 * 4 + j % 4 = j by omega, List.getElem?_eq_getElem hj, hju]
end
/-- parts that a walk gathers: their row is its own, no part lies in it -/
structure Own (B : Nat) (w : World) (v : Value) (ps : List RT) (cs : List Value) : Prop where
  row : w.ownsRow B 100 4 v ps.length cs
  parts : PartsAt (fun j => B ≤ j ∧ v.ownBlock ≠ some j) w cs ps
theorem Own.nil (B : Nat) (w : World) : Own B w (.slice none 0 0) [] [] := ⟨World.ownsRow_nil _ _ _ _, .nil⟩
theorem Own.keeps {B : Nat} {w w' : World} {v : Value} {ps : List RT} {cs : List Value} {S : Nat → Prop} (h : Own B w v ps cs) (hk : Keeps S w w') (hs : ∀ j, B ≤ j → j < w.heap.size → ¬ S j) : Own B w' v ps cs :=
  ⟨own_keeps h.row hk fun j hj => hs j (h.row.lt j hj).1 (h.row.lt j hj).2, h.parts.keeps hk fun j hj hl => hs j hj.1 hl⟩
theorem Own.app {B : Nat} {w : World} {v u : Value} {ps qs : List RT} {cs ds : List Value} (h : Own B w v ps cs) (hB : B ≤ w.heap.size) (hu : RowAt w 100 u qs.length ds) (hq : PartsAt (fun j => B ≤ j ∧ v.ownBlock ≠ some j) w ds qs) (hn : ps.length + qs.length ≤ 1000000000) :
    ∃ p c w', (dappOp #[98, 98] 98 #[v, u]).run Tryz.prog w = .ok (.slice p (ps ++ qs).length c) w' ∧ Own B w' (.slice p (ps ++ qs).length c) (ps ++ qs) (cs ++ ds) ∧ Keeps (fun j => B ≤ j ∧ j < w.heap.size ∧ v.ownBlock = some j) w w' := by
  obtain ⟨i0, hi, hz0, hz1, hz2⟩ := info_parts info_rule
  rcases hu with ⟨rfl, h0⟩ | ⟨g, c, cur, rfl, hc, hl, hcell⟩
  · obtain rfl : qs = [] := List.eq_nil_of_length_eq_zero h0
    obtain rfl : ds = [] := List.eq_nil_of_length_eq_zero (by rw [hq.len]; rfl)
    obtain ⟨p, c, rfl⟩ := own_slice h.row
    refine ⟨p, c, w, ?_, ?_, Keeps.refl _ _⟩
    · rw [List.append_nil]
      exact run_append_owned_none w B _ _ _ i0 4 Tryz.underlying98 hi _ ps.length _ h.row
    · rw [List.append_nil, List.append_nil]; exact h
  · obtain ⟨v', w', h2, h3, h4, _, h5⟩ := run_append_own_at (P := Tryz.prog) w B 98 98 100 i0 (.agg #[.int .i64 0, .string ⟨#[]⟩, .string ⟨#[]⟩, .slice none 0 0]) 4 64 Tryz.underlying98 hi hz0 hz1 hz2 rfl (by decide) v ps.length _ h.row ⟨g, 0, none⟩ qs.length c ds hq.len (by
      intro j u hj
      rw [addr_at, hl.cell j]
      exact hcell j u hj) hq.one_cell (by unfold maxLen; omega) (by omega) hB
    obtain ⟨p, c', rfl⟩ := own_slice h3
    have hk : Keeps (fun j => B ≤ j ∧ j < w.heap.size ∧ v.ownBlock = some j) w w' := (Keeps.refl _ w).grown h4 fun k e => .inl ⟨(h.row.lt k e).1, (h.row.lt k e).2, e⟩
    rw [← List.length_append] at h2 h3 h5
    refine ⟨p, c', w', h2, ⟨h3, ?_⟩, hk⟩
    have hP := h.parts.app hq
    refine (hP.mono (Q := fun j => (B ≤ j ∧ v.ownBlock ≠ some j) ∧ j < w.heap.size) fun j hj hlt => ⟨hj, hlt⟩).keeps hk (fun j hj _ e => hj.1.2 e.2.2) |>.mono fun j hj _ => ⟨hj.1.1, ?_⟩
    rcases h5 with e | e
    · rw [e]; exact hj.1.2
    · rw [e]; intro e'; have := Option.some.inj e'; omega
/-- a relation: its name, its rule -/
abbrev RelD := List UInt8 × RT
/-- a type: its name, its relations -/
abbrev TyD := List UInt8 × List RelD
/-- the cells of several relations -/
structure RelsAt (P : Nat → Prop) (w : World) (cs : List Value) (rels : List RelD) : Prop where
  len : cs.length = rels.length * 5
  part : ∀ (i : Nat) (n : List UInt8) (r : RT), rels[i]? = some (n, r) → ∃ rc, (cs.drop (i * 5)).take 5 = strV n :: rc ∧ RAt P w rc r
section
variable {P Q S : Nat → Prop} {w w' : World} {cs cs' : List Value} {rels rels' : List RelD}
theorem RelsAt.nil : RelsAt P w [] [] := ⟨rfl, fun i n r h => by simp at h⟩
theorem RelsAt.mono (h : RelsAt P w cs rels) (hP : ∀ j, P j → j < w.heap.size → Q j) : RelsAt Q w cs rels := ⟨h.len, fun i n r hi => by obtain ⟨rc, h1, h2⟩ := h.part i n r hi; exact ⟨rc, h1, h2.mono hP⟩⟩
theorem RelsAt.keeps (h : RelsAt P w cs rels) (hk : Keeps S w w') (hs : ∀ j, P j → j < w.heap.size → ¬ S j) : RelsAt P w' cs rels := ⟨h.len, fun i n r hi => by obtain ⟨rc, h1, h2⟩ := h.part i n r hi; exact ⟨rc, h1, h2.keeps hk hs⟩⟩
theorem RelsAt.app (h : RelsAt P w cs rels) (h' : RelsAt P w cs' rels') : RelsAt P w (cs ++ cs') (rels ++ rels') := by
  refine ⟨by rw [List.length_append, List.length_append, h.len, h'.len, Nat.add_mul], fun i n r hi => ?_⟩
  by_cases hlt : i < rels.length
  · rw [List.getElem?_append_left hlt] at hi
    rw [List.drop_append_of_le_length (by rw [h.len]; omega), List.take_append_of_le_length (by rw [List.length_drop, h.len]; omega)]
    exact h.part i n r hi
  · rw [List.getElem?_append_right (by omega)] at hi
    have e : i * 5 = cs.length + (i - rels.length) * 5 := by rw [h.len, Nat.sub_mul]; omega
    rw [e, ← List.drop_drop, List.drop_left]
    exact h'.part _ n r hi
theorem RelsAt.one {n : List UInt8} {r : RT} (h : RAt P w cs r) : RelsAt P w (strV n :: cs) [(n, r)] := by
  refine ⟨by rw [List.length_cons, h.len]; rfl, fun i n' r' hi => ?_⟩
  match i, hi with
  | 0, hi =>
    obtain ⟨rfl, rfl⟩ := Prod.mk.inj (Option.some.inj hi)
    refine ⟨cs, ?_, h⟩
    rw [Nat.zero_mul, List.drop_zero, List.take_of_length_le (by rw [List.length_cons, h.len]; exact Nat.le_refl _)]
theorem RelsAt.one_cell (h : RelsAt P w cs rels) : ∀ u ∈ cs, u.oneCell' = true := by
  intro u hu
  obtain ⟨j, hj, hju⟩ := List.mem_iff_getElem.1 hu
  have hlt : j / 5 < rels.length := by have := h.len; omega
  obtain ⟨rc, h1, h2⟩ := h.part (j / 5) rels[j / 5].1 rels[j / 5].2 (List.getElem?_eq_getElem hlt)
  have hm : u ∈ (cs.drop (j / 5 * 5)).take 5 := by
    rw [List.mem_iff_getElem?]
    refine ⟨j % 5, ?_⟩
    rw [List.getElem?_take_of_lt (Nat.mod_lt _ (by decide)), List.getElem?_drop, show j / 5 * 5 + j % 5 = j by omega, List.getElem?_eq_getElem hj, hju]
  rw [h1] at hm
  rcases List.mem_cons.1 hm with rfl | hm
  · rfl
  · exact h2.one_cell u hm
end
/-- types' cells: the name, the relations' row -/
def ycells (ts : List TyD) (us : List Value) : List Value := (List.zip ts us).flatMap fun x => [strV x.1.1, x.2]
theorem ycells_app {ts ts' : List TyD} {us us' : List Value} (h : us.length = ts.length) : ycells (ts ++ ts') (us ++ us') = ycells ts us ++ ycells ts' us' := by
  unfold ycells
  rw [List.zip_append h.symm, List.flatMap_append]
theorem ycells_len : ∀ (ts : List TyD) (us : List Value), us.length = ts.length → (ycells ts us).length = ts.length * 2
  | [], us, h => by
    have : us = [] := List.eq_nil_of_length_eq_zero h
    subst this; rfl
  | t :: ts, [], h => by simp at h
  | t :: ts, u :: us, h => by
    have e : ycells (t :: ts) (u :: us) = strV t.1 :: u :: ycells ts us := rfl
    rw [e, List.length_cons, List.length_cons, ycells_len ts us (by simpa using h), List.length_cons]; omega
theorem info_type : (Tryz.prog.info? 96).map (fun i => (i.zero, i.size, i.bytes)) = some (some (.agg #[.string ⟨#[]⟩, .slice none 0 0]), 2, 40) := by kernel_rfl
theorem info_rel : (Tryz.prog.info? 103).map (fun i => (i.zero, i.size, i.bytes)) = some (some (.agg #[.string ⟨#[]⟩, .int .i64 0, .string ⟨#[]⟩, .string ⟨#[]⟩, .slice none 0 0]), 5, 80) := by kernel_rfl
/-- a row that is only read -/
def RowV (w : World) (v : Value) (n : Nat) (cs : List Value) : Prop := n ≤ maxLen ∧ ((∃ p c, v = .slice p 0 c ∧ n = 0) ∨ ∃ (g o c : Nat), v = .slice (some ⟨g, o, none⟩) n c ∧ n ≤ c ∧ ∀ (i : Nat) (u : Value), cs[i]? = some u → g < w.heap.size ∧ w.cell? ⟨g, o + i, none⟩ = some u)
theorem RowV.below {w w' : World} {v : Value} {n : Nat} {cs : List Value} (h : RowV w v n cs) (hb : Below w.heap.size w w') : RowV w' v n cs := by
  refine ⟨h.1, h.2.imp id ?_⟩
  rintro ⟨g, o, c, rfl, hc, hcell⟩
  refine ⟨g, o, c, rfl, hc, fun i u hu => ?_⟩
  obtain ⟨h1, h2⟩ := hcell i u hu
  exact ⟨Nat.lt_of_lt_of_le h1 hb.size, by rw [hb.cell (p := ⟨g, o + i, none⟩) h1]; exact h2⟩
theorem RowV.form {w : World} {v : Value} {n : Nat} {cs : List Value} (h : RowV w v n cs) : ∃ p c, v = .slice p n c := by
  rcases h.2 with ⟨p, c, rfl, rfl⟩ | ⟨g, o, c, rfl, _⟩
  · exact ⟨_, _, rfl⟩
  · exact ⟨_, _, rfl⟩
theorem RowV.cell {w : World} {p : Option Addr} {n c : Nat} {cs : List Value} (h : RowV w (.slice p n c) n cs) (hn : 0 < n) : ∃ g o, p = some ⟨g, o, none⟩ ∧ n ≤ c ∧ ∀ (i : Nat) (u : Value), cs[i]? = some u → g < w.heap.size ∧ w.cell? ⟨g, o + i, none⟩ = some u := by
  rcases h.2 with ⟨p, c, _, rfl⟩ | ⟨g, o, c', e, hc, hcell⟩
  · omega
  · injection e with e1 _ e3
    subst e1 e3
    exact ⟨g, o, rfl, hc, hcell⟩
theorem RowV.of_row {w : World} {T : TypeId} {v : Value} {n : Nat} {cs : List Value} (h : RowAt w T v n cs) (hn : n ≤ maxLen) : RowV w v n cs := by
  refine ⟨hn, ?_⟩
  rcases h with ⟨rfl, rfl⟩ | ⟨g, c, cur, rfl, hc, hl, hcell⟩
  · exact .inl ⟨_, _, rfl, rfl⟩
  · exact .inr ⟨g, 0, c, rfl, hc, fun i u hu => ⟨hl.lt, by rw [hl.cell, Nat.zero_add]; exact hcell i u hu⟩⟩
/-- a rule's cells, only read -/
inductive RV (w : World) : List Value → RT → Prop
  | mk {k : Int} {a b : List UInt8} {v : Value} {ps : List RT} {cs : List Value} (hrow : RowV w v ps.length cs) (hlen : cs.length = ps.length * 4) (hparts : ∀ (i : Nat) (p : RT), ps[i]? = some p → RV w ((cs.drop (i * 4)).take 4) p) : RV w [.int .i64 k, strV a, strV b, v] (.node k a b ps)
theorem RV.later {w w' : World} {cs : List Value} {r : RT} (h : RV w cs r) (hb : Below w.heap.size w w') : RV w' cs r := by
  induction h with
  | mk hrow hlen _ ih => exact .mk (hrow.below hb) hlen ih
/-- no group has more parts than that -/
inductive RT.small (N : Nat) : RT → Prop
  | mk {k : Int} {a b : List UInt8} {ps : List RT} (hn : ps.length ≤ N) (hp : ∀ p ∈ ps, RT.small N p) : RT.small N (.node k a b ps)
theorem RV.of {P : Nat → Prop} {w : World} {cs : List Value} {r : RT} (h : RAt P w cs r) {N : Nat} (hN : N ≤ maxLen) (hs : r.small N) : RV w cs r := by
  induction h with
  | mk hrow hp hlen _ ih =>
    cases hs with
    | mk hn hps => exact .mk (.of_row hrow (by omega)) hlen fun i p hi => ih i p hi (hps p (List.mem_of_getElem? hi))
theorem RV.form {w : World} {cs : List Value} {r : RT} (h : RV w cs r) : ∃ (k : Int) (a b : ByteArray) (p : Option Addr) (c : Nat) (ds : List Value), cs = [.int .i64 k, .string a, .string b, .slice p r.parts.length c] ∧ r = .node k a.data.toList b.data.toList r.parts ∧ RowV w (.slice p r.parts.length c) r.parts.length ds ∧ ds.length = r.parts.length * 4 ∧ ∀ (i : Nat) (q : RT), r.parts[i]? = some q → RV w ((ds.drop (i * 4)).take 4) q := by
  cases h with
  | mk hrow hlen hparts =>
    obtain ⟨p, c, rfl⟩ := hrow.form
    exact ⟨_, _, _, p, c, _, rfl, rfl, hrow, hlen, hparts⟩
/-- the four cells of one part -/
theorem RV.part {w : World} {g o i : Nat} {ds : List Value} {ps : List RT} {q : RT} (hcell : ∀ (i : Nat) (u : Value), ds[i]? = some u → g < w.heap.size ∧ w.cell? ⟨g, o + i, none⟩ = some u) (hq : ps[i]? = some q) (h : RV w ((ds.drop (i * 4)).take 4) q) :
    ∃ (k : Int) (a b : ByteArray) (p : Option Addr) (c : Nat), RV w [.int .i64 k, .string a, .string b, .slice p q.parts.length c] q ∧ q = .node k a.data.toList b.data.toList q.parts ∧ g < w.heap.size ∧ w.cell? ⟨g, o + i * 4, none⟩ = some (.int .i64 k) ∧ w.cell? ⟨g, o + i * 4 + 1, none⟩ = some (.string a) ∧ w.cell? ⟨g, o + i * 4 + 2, none⟩ = some (.string b) ∧ w.cell? ⟨g, o + i * 4 + 3, none⟩ = some (.slice p q.parts.length c) := by
  obtain ⟨k, a, b, p, c, _, e, hr, _⟩ := h.form
  have hi := (List.getElem?_eq_some_iff.1 hq).1
  have hu : ∀ j u, j < 4 → [Value.int .i64 k, .string a, .string b, .slice p q.parts.length c][j]? = some u → g < w.heap.size ∧ w.cell? ⟨g, o + (i * 4 + j), none⟩ = some u := fun j u hj hu => by
    rw [← e, List.getElem?_take, if_pos hj, List.getElem?_drop] at hu
    exact hcell _ u hu
  rw [e] at h
  refine ⟨k, a, b, p, c, h, hr, (hu 0 _ (by decide) rfl).1, (hu 0 _ (by decide) rfl).2, ?_, ?_, ?_⟩
  · have := (hu 1 _ (by decide) rfl).2; rw [← Nat.add_assoc] at this; exact this
  · have := (hu 2 _ (by decide) rfl).2; rw [← Nat.add_assoc] at this; exact this
  · have := (hu 3 _ (by decide) rfl).2; rw [← Nat.add_assoc] at this; exact this
def RelsV (w : World) (rcs : List Value) (rels : List RelD) : Prop := rcs.length = rels.length * 5 ∧ ∀ (i : Nat) (n : List UInt8) (r : RT), rels[i]? = some (n, r) → ∃ rc, (rcs.drop (i * 5)).take 5 = strV n :: rc ∧ RV w rc r
def TysV (w : World) (cs : List Value) (ts : List TyD) : Prop := cs.length = ts.length * 2 ∧ ∀ (i : Nat) (n : List UInt8) (rels : List RelD), ts[i]? = some (n, rels) → ∃ u rcs, (cs.drop (i * 2)).take 2 = [strV n, u] ∧ RowV w u rels.length rcs ∧ RelsV w rcs rels
/-- a schema that is only read: its rows may lie anywhere -/
def SchV (w : World) (v : Value) (ts : List TyD) : Prop := ∃ cs, RowV w v ts.length cs ∧ TysV w cs ts
section
variable {w w' : World}
theorem RelsV.later {rcs : List Value} {rels : List RelD} (h : RelsV w rcs rels) (hb : Below w.heap.size w w') : RelsV w' rcs rels :=
  ⟨h.1, fun i n r hi => by obtain ⟨rc, h1, h2⟩ := h.2 i n r hi; exact ⟨rc, h1, h2.later hb⟩⟩
theorem TysV.later {cs : List Value} {ts : List TyD} (h : TysV w cs ts) (hb : Below w.heap.size w w') : TysV w' cs ts :=
  ⟨h.1, fun i n rels hi => by obtain ⟨u, rcs, h1, h2, h3⟩ := h.2 i n rels hi; exact ⟨u, rcs, h1, h2.below hb, h3.later hb⟩⟩
theorem SchV.later {v : Value} {ts : List TyD} (h : SchV w v ts) (hb : Below w.heap.size w w') : SchV w' v ts := by
  obtain ⟨cs, h1, h2⟩ := h; exact ⟨cs, h1.below hb, h2.later hb⟩
theorem SchV.form {v : Value} {ts : List TyD} (h : SchV w v ts) : ∃ p c, v = .slice p ts.length c := by
  obtain ⟨cs, h1, _⟩ := h; exact h1.form
/-- all rules of a schema are small -/
def TsSmall (N : Nat) (ts : List TyD) : Prop := ts.length ≤ N ∧ ∀ t ∈ ts, t.2.length ≤ N ∧ ∀ x ∈ t.2, x.2.small N
theorem drop_ycells : ∀ (i : Nat) (ts : List TyD) (us : List Value) (t : TyD) (u : Value), us.length = ts.length → ts[i]? = some t → us[i]? = some u → ((ycells ts us).drop (i * 2)).take 2 = [strV t.1, u]
  | _, [], _, _, _, _, h, _ => by simp at h
  | _, _ :: _, [], _, _, hl, _, _ => by simp at hl
  | 0, t :: ts, u :: us, t', u', _, h1, h2 => by
    obtain rfl := Option.some.inj h1
    obtain rfl := Option.some.inj h2
    rfl
  | i + 1, t :: ts, u :: us, t', u', hl, h1, h2 => by
    have e : ycells (t :: ts) (u :: us) = strV t.1 :: u :: ycells ts us := rfl
    rw [e, show (i + 1) * 2 = i * 2 + 2 by omega, List.drop_succ_cons, List.drop_succ_cons]
    exact drop_ycells i ts us t' u' (by simpa using hl) h1 h2
/-- the two cells of one type -/
theorem TysV.part {g o i : Nat} {cs : List Value} {ts : List TyD} {n : List UInt8} {rels : List RelD} (h : TysV w cs ts) (hcell : ∀ (i : Nat) (u : Value), cs[i]? = some u → g < w.heap.size ∧ w.cell? ⟨g, o + i, none⟩ = some u) (hq : ts[i]? = some (n, rels)) :
    ∃ (N : ByteArray) (p : Option Addr) (c : Nat) (rcs : List Value), N.data.toList = n ∧ g < w.heap.size ∧ w.cell? ⟨g, o + i * 2, none⟩ = some (.string N) ∧ w.cell? ⟨g, o + i * 2 + 1, none⟩ = some (.slice p rels.length c) ∧ RowV w (.slice p rels.length c) rels.length rcs ∧ RelsV w rcs rels := by
  obtain ⟨u, rcs, e, h1, h2⟩ := h.2 i n rels hq
  obtain ⟨p, c, rfl⟩ := h1.form
  have hu : ∀ j u, j < 2 → [strV n, Value.slice p rels.length c][j]? = some u → g < w.heap.size ∧ w.cell? ⟨g, o + (i * 2 + j), none⟩ = some u := fun j u hj hu => by
    rw [← e, List.getElem?_take, if_pos hj, List.getElem?_drop] at hu
    exact hcell _ u hu
  obtain ⟨N, eN, dN⟩ : ∃ Q : ByteArray, strV n = .string Q ∧ Q.data.toList = n := ⟨⟨n.toArray⟩, rfl, rfl⟩
  have h0 := hu 0 _ (by decide) rfl
  rw [eN] at h0
  have h3 := (hu 1 _ (by decide) rfl).2
  rw [← Nat.add_assoc] at h3
  exact ⟨N, p, c, rcs, dN, h0.1, h0.2, h3, h1, h2⟩
/-- the five cells of one relation -/
theorem RelsV.part {g o i : Nat} {rcs : List Value} {rels : List RelD} {n : List UInt8} {r : RT} (h : RelsV w rcs rels) (hcell : ∀ (i : Nat) (u : Value), rcs[i]? = some u → g < w.heap.size ∧ w.cell? ⟨g, o + i, none⟩ = some u) (hq : rels[i]? = some (n, r)) :
    ∃ (N : ByteArray) (k : Int) (a b : ByteArray) (p : Option Addr) (c : Nat), N.data.toList = n ∧ g < w.heap.size ∧ w.cell? ⟨g, o + i * 5, none⟩ = some (.string N) ∧ w.cell? ⟨g, o + i * 5 + 1, none⟩ = some (.int .i64 k) ∧ w.cell? ⟨g, o + i * 5 + 2, none⟩ = some (.string a) ∧ w.cell? ⟨g, o + i * 5 + 3, none⟩ = some (.string b) ∧ w.cell? ⟨g, o + i * 5 + 4, none⟩ = some (.slice p r.parts.length c) ∧ RV w [.int .i64 k, .string a, .string b, .slice p r.parts.length c] r := by
  obtain ⟨rc, e, h1⟩ := h.2 i n r hq
  obtain ⟨k, a, b, p, c, _, rfl, _⟩ := h1.form
  have hu : ∀ j u, j < 5 → [strV n, Value.int .i64 k, .string a, .string b, .slice p r.parts.length c][j]? = some u → g < w.heap.size ∧ w.cell? ⟨g, o + (i * 5 + j), none⟩ = some u := fun j u hj hu => by
    rw [← e, List.getElem?_take, if_pos hj, List.getElem?_drop] at hu
    exact hcell _ u hu
  obtain ⟨N, eN, dN⟩ : ∃ Q : ByteArray, strV n = .string Q ∧ Q.data.toList = n := ⟨⟨n.toArray⟩, rfl, rfl⟩
  have h0 := hu 0 _ (by decide) rfl
  rw [eN] at h0
  refine ⟨N, k, a, b, p, c, dN, h0.1, h0.2, ?_, ?_, ?_, ?_, h1⟩
  · have := (hu 1 _ (by decide) rfl).2; rw [← Nat.add_assoc] at this; exact this
  · have := (hu 2 _ (by decide) rfl).2; rw [← Nat.add_assoc] at this; exact this
  · have := (hu 3 _ (by decide) rfl).2; rw [← Nat.add_assoc] at this; exact this
  · have := (hu 4 _ (by decide) rfl).2; rw [← Nat.add_assoc] at this; exact this
end

/-- relations that a walk gathers: their row is its own, no rule lies in it -/
structure OwnR (B : Nat) (w : World) (v : Value) (rels : List RelD) (cs : List Value) : Prop where
  row : w.ownsRow B 103 5 v rels.length cs
  parts : RelsAt (fun j => B ≤ j ∧ v.ownBlock ≠ some j) w cs rels
theorem OwnR.nil (B : Nat) (w : World) : OwnR B w (.slice none 0 0) [] [] := ⟨World.ownsRow_nil _ _ _ _, .nil⟩
theorem OwnR.keeps {B : Nat} {w w' : World} {v : Value} {ps : List RelD} {cs : List Value} {S : Nat → Prop} (h : OwnR B w v ps cs) (hk : Keeps S w w') (hs : ∀ j, B ≤ j → j < w.heap.size → ¬ S j) : OwnR B w' v ps cs :=
  ⟨own_keeps h.row hk fun j hj => hs j (h.row.lt j hj).1 (h.row.lt j hj).2, h.parts.keeps hk fun j hj hl => hs j hj.1 hl⟩
theorem OwnR.app {B : Nat} {w : World} {v : Value} {ps : List RelD} {cs : List Value} (h : OwnR B w v ps cs) (hB : B ≤ w.heap.size) (hn : ps.length ≤ 100000000) {o : Nat} {m a b : ByteArray} {k : Int} {p0 : Option Addr} {n0 c0 : Nat} {r : RT}
    (ho : Blk w o 103 #[.string m, .int .i64 k, .string a, .string b, .slice p0 n0 c0]) (hr : RAt (fun j => B ≤ j ∧ v.ownBlock ≠ some j) w [.int .i64 k, .string a, .string b, .slice p0 n0 c0] r) :
    ∃ p c w', (dappOp #[94, 94] 94 #[v, .slice (some ⟨o, 0, none⟩) 1 1]).run Tryz.prog w = .ok (.slice p (ps.length + 1) c) w' ∧ OwnR B w' (.slice p (ps.length + 1) c) (ps ++ [(m.data.toList, r)]) (cs ++ [.string m, .int .i64 k, .string a, .string b, .slice p0 n0 c0]) ∧ Keeps (fun j => B ≤ j ∧ j < w.heap.size ∧ v.ownBlock = some j) w w' := by
  obtain ⟨i0, hi, hz0, hz1, hz2⟩ := info_parts info_rel
  obtain ⟨v', w', h2, h3, h4, _, h5⟩ := run_append_own_at (P := Tryz.prog) w B 94 94 103 i0 (.agg #[.string ⟨#[]⟩, .int .i64 0, .string ⟨#[]⟩, .string ⟨#[]⟩, .slice none 0 0]) 5 80 Tryz.underlying94 hi hz0 hz1 hz2 rfl (by decide) v ps.length _ h.row ⟨o, 0, none⟩ 1 1 [.string m, .int .i64 k, .string a, .string b, .slice p0 n0 c0] rfl (by
      intro j u hj
      rw [addr_at, ho.cell j, ← hj]
      simp) (by
      intro u hu
      simp at hu
      rcases hu with rfl | rfl | rfl | rfl | rfl <;> rfl) (by unfold maxLen; omega) (by omega) hB
  obtain ⟨p, c', rfl⟩ := own_slice h3
  have hk : Keeps (fun j => B ≤ j ∧ j < w.heap.size ∧ v.ownBlock = some j) w w' := (Keeps.refl _ w).grown h4 fun k e => .inl ⟨(h.row.lt k e).1, (h.row.lt k e).2, e⟩
  refine ⟨p, c', w', h2, ⟨by rw [List.length_append]; exact h3, ?_⟩, hk⟩
  have hone := RelsAt.one (n := m.data.toList) hr
  rw [← strV_mk] at hone
  have hP := h.parts.app hone
  refine (hP.mono (Q := fun j => (B ≤ j ∧ v.ownBlock ≠ some j) ∧ j < w.heap.size) fun j hj hlt => ⟨hj, hlt⟩).keeps hk (fun j hj _ e => hj.1.2 e.2.2) |>.mono fun j hj _ => ⟨hj.1.1, ?_⟩
  rcases h5 with e | e
  · rw [e]; exact hj.1.2
  · rw [e]; intro e'; have := Option.some.inj e'; omega
/-- a schema that was made: its rows lie from B on -/
structure Made (B : Nat) (w : World) (v : Value) (us : List Value) (ts : List TyD) : Prop where
  row : RowAt w 96 v ts.length (ycells ts us)
  low : ∀ g, v.ownBlock = some g → B ≤ g
  len : us.length = ts.length
  rels : ∀ (i : Nat) (t : TyD) (u : Value), ts[i]? = some t → us[i]? = some u → ∃ cs, RowAt w 103 u t.2.length cs ∧ (∀ g, u.ownBlock = some g → B ≤ g) ∧ RelsAt (fun j => B ≤ j) w cs t.2
theorem Made.keeps {B : Nat} {w w' : World} {v : Value} {us : List Value} {ts : List TyD} {S : Nat → Prop} (h : Made B w v us ts) (hk : Keeps S w w') (hs : ∀ j, B ≤ j → ¬ S j) : Made B w' v us ts :=
  ⟨h.row.keeps hk fun g hg => hs g (h.low g hg), h.low, h.len, fun i t u ht hu => by
    obtain ⟨cs, h1, h2, h3⟩ := h.rels i t u ht hu
    exact ⟨cs, h1.keeps hk fun g hg => hs g (h2 g hg), h2, h3.keeps hk fun j hj _ => hs j hj⟩⟩
theorem Made.later {B : Nat} {w w' : World} {v : Value} {us : List Value} {ts : List TyD} (h : Made B w v us ts) (hb : Below w.heap.size w w') : Made B w' v us ts := h.keeps (S := fun _ => False) (.of_below hb) fun _ _ => id
theorem Made.read {B : Nat} {w : World} {v : Value} {us : List Value} {ts : List TyD} (h : Made B w v us ts) {N : Nat} (hN : N ≤ maxLen) (hs : TsSmall N ts) : SchV w v ts := by
  refine ⟨_, .of_row h.row (by have := hs.1; omega), ycells_len ts us h.len, fun i n rels hi => ?_⟩
  have hlt : i < us.length := by rw [h.len]; exact (List.getElem?_eq_some_iff.1 hi).1
  have hu : us[i]? = some us[i] := List.getElem?_eq_getElem hlt
  obtain ⟨cs, h1, _, h2⟩ := h.rels i (n, rels) us[i] hi hu
  obtain ⟨hr1, hr2⟩ := hs.2 (n, rels) (List.mem_of_getElem? hi)
  refine ⟨us[i], cs, drop_ycells i ts us (n, rels) us[i] h.len hi hu, .of_row h1 (Nat.le_trans hr1 hN), h2.len, fun j m r hj => ?_⟩
  obtain ⟨rc, h3, h4⟩ := h2.part j m r hj
  exact ⟨rc, h3, .of h4 hN (hr2 (m, r) (List.mem_of_getElem? hj))⟩
/-- types that a walk gathers -/
structure OwnY (B : Nat) (w : World) (v : Value) (us : List Value) (ts : List TyD) : Prop where
  row : w.ownsRow B 96 2 v ts.length (ycells ts us)
  len : us.length = ts.length
  rels : ∀ (i : Nat) (t : TyD) (u : Value), ts[i]? = some t → us[i]? = some u → ∃ cs, RowAt w 103 u t.2.length cs ∧ (∀ g, u.ownBlock = some g → B ≤ g) ∧ RelsAt (fun j => B ≤ j ∧ v.ownBlock ≠ some j) w cs t.2
theorem OwnY.nil (B : Nat) (w : World) : OwnY B w (.slice none 0 0) [] [] := ⟨World.ownsRow_nil _ _ _ _, rfl, fun i t u h => by simp at h⟩
theorem OwnY.made {B : Nat} {w : World} {v : Value} {us : List Value} {ts : List TyD} (h : OwnY B w v us ts) : Made B w v us ts :=
  ⟨.of_own h.row, fun g hg => (h.row.lt g hg).1, h.len, fun i t u ht hu => by
    obtain ⟨cs, h1, h2, h3⟩ := h.rels i t u ht hu
    exact ⟨cs, h1, h2, h3.mono fun j hj _ => hj.1⟩⟩
theorem OwnY.keeps {B : Nat} {w w' : World} {v : Value} {us : List Value} {ts : List TyD} {S : Nat → Prop} (h : OwnY B w v us ts) (hk : Keeps S w w') (hs : ∀ j, B ≤ j → ¬ S j) : OwnY B w' v us ts :=
  ⟨own_keeps h.row hk fun j hj => hs j (h.row.lt j hj).1, h.len, fun i t u ht hu => by
    obtain ⟨cs, h1, h2, h3⟩ := h.rels i t u ht hu
    exact ⟨cs, h1.keeps hk fun g hg => hs g (h2 g hg), h2, h3.keeps hk fun j hj _ => hs j hj.1⟩⟩
theorem OwnY.app {B : Nat} {w : World} {v u : Value} {us : List Value} {ts : List TyD} {rels : List RelD} {cs : List Value} (h : OwnY B w v us ts) (hB : B ≤ w.heap.size) (hn : ts.length ≤ 100000000) {o : Nat} {n : ByteArray}
    (ho : Blk w o 96 #[.string n, u]) (hu : RowAt w 103 u rels.length cs) (hl : ∀ g, u.ownBlock = some g → B ≤ g) (hr : RelsAt (fun j => B ≤ j ∧ v.ownBlock ≠ some j) w cs rels) :
    ∃ p c w', (dappOp #[54, 54] 54 #[v, .slice (some ⟨o, 0, none⟩) 1 1]).run Tryz.prog w = .ok (.slice p (ts.length + 1) c) w' ∧ OwnY B w' (.slice p (ts.length + 1) c) (us ++ [u]) (ts ++ [(n.data.toList, rels)]) ∧ Keeps (fun j => B ≤ j ∧ j < w.heap.size ∧ v.ownBlock = some j) w w' := by
  obtain ⟨i0, hi, hz0, hz1, hz2⟩ := info_parts info_type
  obtain ⟨pu, cu, rfl⟩ := hu.slice
  obtain ⟨v', w', h2, h3, h4, _, h5⟩ := run_append_own_at (P := Tryz.prog) w B 54 54 96 i0 (.agg #[.string ⟨#[]⟩, .slice none 0 0]) 2 40 Tryz.underlying54 hi hz0 hz1 hz2 rfl (by decide) v ts.length _ h.row ⟨o, 0, none⟩ 1 1 [.string n, .slice pu rels.length cu] rfl (by
      intro j u hj
      rw [addr_at, ho.cell j, ← hj]
      simp) (by
      intro u hu
      simp at hu
      rcases hu with rfl | rfl <;> rfl) (by unfold maxLen; omega) (by omega) hB
  obtain ⟨p, c', rfl⟩ := own_slice h3
  have hk : Keeps (fun j => B ≤ j ∧ j < w.heap.size ∧ v.ownBlock = some j) w w' := (Keeps.refl _ w).grown h4 fun k e => .inl ⟨(h.row.lt k e).1, (h.row.lt k e).2, e⟩
  have hvn : ∀ {x : Value} {m : Nat} {ds : List Value}, RowAt w 103 x m ds → ∀ g, x.ownBlock = some g → v.ownBlock ≠ some g := fun hx g hg e => by
    obtain ⟨c1, b1⟩ := hx.blk g hg
    obtain ⟨c2, b2⟩ := own_blk h.row g e
    exact Blk.ne_ b1 b2 (by decide) rfl
  have hfix : ∀ {ds : List Value} {rs : List RelD}, RelsAt (fun j => B ≤ j ∧ v.ownBlock ≠ some j) w ds rs → RelsAt (fun j => B ≤ j ∧ (Value.slice p (ts.length + 1) c').ownBlock ≠ some j) w' ds rs := fun hd => by
    refine (hd.mono (Q := fun j => (B ≤ j ∧ v.ownBlock ≠ some j) ∧ j < w.heap.size) fun j hj hlt => ⟨hj, hlt⟩).keeps hk (fun j hj _ e => hj.1.2 e.2.2) |>.mono fun j hj _ => ⟨hj.1.1, ?_⟩
    rcases h5 with e | e
    · rw [e]; exact hj.1.2
    · rw [e]; intro e'; have := Option.some.inj e'; omega
  refine ⟨p, c', w', h2, ⟨?_, by rw [List.length_append, List.length_append, h.len]; rfl, fun i t x ht hx => ?_⟩, hk⟩
  · rw [ycells_app h.len, List.length_append]
    have e : ycells [(n.data.toList, rels)] [.slice pu rels.length cu] = [.string n, .slice pu rels.length cu] := by
      show [strV n.data.toList, _] = _
      rw [← strV_mk]
    rw [e]; exact h3
  · by_cases hlt : i < ts.length
    · rw [List.getElem?_append_left hlt] at ht
      rw [List.getElem?_append_left (by rw [h.len]; exact hlt)] at hx
      obtain ⟨ds, h6, h7, h8⟩ := h.rels i t x ht hx
      exact ⟨ds, h6.keeps hk fun g hg e => hvn h6 g hg e.2.2, h7, hfix h8⟩
    · have hi2 := (List.getElem?_eq_some_iff.1 ht).1
      rw [List.length_append, List.length_singleton] at hi2
      have e : i = ts.length := by omega
      subst e
      rw [List.getElem?_append_right (Nat.le_refl _), Nat.sub_self] at ht
      rw [← h.len, List.getElem?_append_right (Nat.le_refl _), Nat.sub_self] at hx
      obtain rfl := Option.some.inj ht
      obtain rfl := Option.some.inj hx
      exact ⟨cs, hu.keeps hk fun g hg e => hvn hu g hg e.2.2, hl, hfix hr⟩
end Go.Proofs.YtaikedlkkjnffaaGreatDoor
namespace Go.Proofs.YtaikedlkkjnffaaGreatDoor
open Go.RowKit
/-- short names, small rules -/
def RelsOk (rels : List RelD) : Prop := ∀ x ∈ rels, x.1.length ≤ 10 ∧ x.2.small 4
def TsOk (ts : List TyD) : Prop := ∀ t ∈ ts, t.1.length ≤ 10 ∧ t.2.length ≤ 4 ∧ RelsOk t.2
theorem RelsOk.app {rels : List RelD} {x : RelD} (h : RelsOk rels) (h1 : x.1.length ≤ 10) (h2 : x.2.small 4) : RelsOk (rels ++ [x]) := by
  intro y hy
  rcases List.mem_append.1 hy with hy | hy
  · exact h y hy
  · rw [List.mem_singleton.1 hy]; exact ⟨h1, h2⟩
theorem TsOk.app {ts : List TyD} {x : TyD} (h : TsOk ts) (h1 : x.1.length ≤ 10) (h2 : x.2.length ≤ 4) (h3 : RelsOk x.2) : TsOk (ts ++ [x]) := by
  intro y hy
  rcases List.mem_append.1 hy with hy | hy
  · exact h y hy
  · rw [List.mem_singleton.1 hy]; exact ⟨h1, h2, h3⟩
theorem TsOk.small {ts : List TyD} (h : TsOk ts) (hl : ts.length ≤ 4) : TsSmall 4 ts := ⟨hl, fun t ht => ⟨(h t ht).2.1, fun x hx => ((h t ht).2.2 x hx).2⟩⟩
theorem size_data (s : ByteArray) : s.data.toList.length = s.size := by rw [Lib.size_eq]
end Go.Proofs.YtaikedlkkjnffaaGreatDoor
