/- What Start and Load make of a disk that is up. No program in sight. Walks: two versions held against each other by the document's Same. Walks: two versions held against each other by the document's Same. Walks: the fixed calls of layer 21's laws; the law FilesNames. Walks: an edit as bytes, the document's way. A manifest's end that isn't whole; how many bytes a version of few tables takes. No program in sight. A disk's blocks are of the disk's own types. Walk: the law FilesTorn. Walks: the document's Same of the same names; FilesStarts: what holds at each version. -/
import Derived.Test.YtabcdodjkfknlaaGreatDoorPL29
import Derived.Test.YtabcdodjkfknlaaGreatDoorPL05
import Derived.Test.YtabcdodjkfknlaaGreatDoorPL09
import Derived.Deep.QuietTactic
import Derived.BigQuiet
import Derived.Test.YtabcdodjkfknlaaGreatDoorPL16
import Derived.Test.YtabcdodjkfknlaaGreatDoorPL20
import Derived.Test.YtabcdodjkfknlaaGreatDoorPL08
import Derived.Test.YtabcdodjkfknlaaGreatDoorPL19
import Derived.Test.YtabcdodjkfknlaaGreatDoorPL07
import Derived.Test.YtabcdodjkfknlaaGreatDoorPL24
namespace Go.Proofs.YtabcdodjkfknlaaGreatDoor
theorem cur_name : dName currentL = true := by kernel_rfl
theorem fresh_name : dName freshL = true := by kernel_rfl
section
variable {r : RD} {s b : List UInt8}
theorem lay_up (h : Okd r) (hs : dName s = true) (hv : r.view s = none) (hb : r.used + b.length ≤ r.cap) :
    (layR r s b).2 = 0 ∧ Okd (layR r s b).1 ∧ (∀ t, (layR r s b).1.view t = if t = s then some b else r.view t) ∧ (layR r s b).1.used = r.used + b.length ∧ (layR r s b).1.cap = r.cap := by
  obtain ⟨a1, a2, a3, a4, a5⟩ := h.create hs hv
  obtain ⟨b1, b2, b3, b4, b5⟩ := a2.append (b := b) hs (by rw [a3, if_pos rfl]) (by rw [a4, a5]; exact hb)
  obtain ⟨c1, c2, c3, c4, c5⟩ := b2.sync (c := [] ++ b) hs (by rw [b3, if_pos rfl])
  have e : layR r s b = (((r.create s).append s b).sync s, 0) := by
    unfold layR
    rw [if_neg (by rw [a1]; simp), if_neg (by rw [b1]; simp), c1]
  rw [e]
  refine ⟨rfl, c2, fun t => ?_, by show RD.used _ = _; rw [c4, b4, a4], by show RD.cap _ = _; rw [c5, b5, a5]⟩
  show RD.view _ t = _
  rw [c3, b3]
  by_cases e : t = s
  · rw [if_pos e, if_pos e]; rfl
  · rw [if_neg e, if_neg e, a3, if_neg e]
theorem old_up (h : Okd r) : (oldR r).2 = 0 ∧ Okd (oldR r).1 ∧ (∀ t, (oldR r).1.view t = if t = freshL then none else r.view t) ∧ (oldR r).1.used ≤ r.used ∧ (oldR r).1.cap = r.cap := by
  cases hv : r.view freshL with
  | none =>
    obtain ⟨h1, _⟩ := h.miss fresh_name hv
    have e1 : r.removeE freshL = 4 := by unfold RD.removeE; rw [h1, if_neg (by decide)]
    have e2 : r.remove freshL = r := by unfold RD.remove; rw [h1, if_neg (by decide)]
    have e : oldR r = (r, 0) := by unfold oldR; rw [e1, e2, if_pos rfl]
    rw [e]
    refine ⟨rfl, h, fun t => ?_, Nat.le_refl _, rfl⟩
    by_cases et : t = freshL
    · rw [if_pos et, et]; exact hv
    · rw [if_neg et]
  | some c =>
    obtain ⟨a1, a2, a3, a4, a5⟩ := h.remove fresh_name hv
    have e : oldR r = (r.remove freshL, 0) := by unfold oldR; rw [a1, if_neg (by decide)]
    rw [e]
    exact ⟨rfl, a2, a3, a4, a5⟩
/-- Start on a disk that is up, with room, the name not there -/
theorem start_up (h : Okd r) (hs : dName s = true) (hv : r.view s = none) (hb : r.used + b.length + s.length ≤ r.cap) :
    (startS r s b).2 = 0 ∧ Okd (startS r s b).1 ∧ (∀ t, (startS r s b).1.view t = if t = currentL then some s else if t = freshL then none else if t = s then some b else r.view t) ∧ (startS r s b).1.used ≤ r.used + b.length + s.length ∧ (startS r s b).1.cap = r.cap := by
  obtain ⟨a1, a2, a3, a4, a5⟩ : (startA r s b).2 = 0 ∧ _ := lay_up h hs hv (by omega)
  obtain ⟨b1, b2, b3, b4, b5⟩ : (startB r s b).2 = 0 ∧ _ := old_up a2
  have hvf : (startB r s b).1.view freshL = none := by
    show (oldR (startA r s b).1).1.view freshL = none
    rw [b3, if_pos rfl]
  have hroom : (startB r s b).1.used + s.length ≤ (startB r s b).1.cap := by
    have e1 : (startB r s b).1.used ≤ (startA r s b).1.used := b4
    have e2 : (startA r s b).1.used = r.used + b.length := a4
    have e3 : (startB r s b).1.cap = (startA r s b).1.cap := b5
    have e4 : (startA r s b).1.cap = r.cap := a5
    omega
  obtain ⟨c1, c2, c3, c4, c5⟩ : (startC r s b).2 = 0 ∧ _ := lay_up b2 fresh_name hvf hroom
  obtain ⟨d1, d2, d3, d4, d5⟩ := c2.rename (b := currentL) (c := s) fresh_name cur_name (by rw [c3, if_pos rfl])
  have d1 : (startD r s b).2 = 0 := d1
  obtain ⟨e1, e2, e3, e4, e5⟩ := d2.syncDir
  have e1 : (startE r s b).2 = 0 := e1
  have e : startS r s b = startE r s b := by
    unfold startS
    rw [if_neg (by rw [a1]; simp), if_neg (by rw [b1]; simp), if_neg (by rw [c1]; simp), if_neg (by rw [d1]; simp)]
  rw [e]
  refine ⟨e1, e2, fun t => ?_, ?_, ?_⟩
  · have q1 : (startE r s b).1.view t = (startD r s b).1.view t := e3 t
    have q2 : (startD r s b).1.view t = if t = currentL then some s else if t = freshL then none else (startC r s b).1.view t := d3 t
    have q3 : (startC r s b).1.view t = if t = freshL then some s else (startB r s b).1.view t := c3 t
    have q4 : (startB r s b).1.view t = if t = freshL then none else (startA r s b).1.view t := b3 t
    have q5 : (startA r s b).1.view t = if t = s then some b else r.view t := a3 t
    rw [q1, q2]
    by_cases t1 : t = currentL
    · rw [if_pos t1, if_pos t1]
    · rw [if_neg t1, if_neg t1]
      by_cases t2 : t = freshL
      · rw [if_pos t2, if_pos t2]
      · rw [if_neg t2, if_neg t2, q3, if_neg t2, q4, if_neg t2, q5]
  · have q1 : (startE r s b).1.used = (startD r s b).1.used := e4
    have q2 : (startD r s b).1.used ≤ (startC r s b).1.used := d4
    have q3 : (startC r s b).1.used = (startB r s b).1.used + s.length := c4
    have q4 : (startB r s b).1.used ≤ (startA r s b).1.used := b4
    have q5 : (startA r s b).1.used = r.used + b.length := a4
    omega
  · have q1 : (startE r s b).1.cap = (startD r s b).1.cap := e5
    have q2 : (startD r s b).1.cap = (startC r s b).1.cap := d5
    have q3 : (startC r s b).1.cap = (startB r s b).1.cap := c5
    have q4 : (startB r s b).1.cap = (startA r s b).1.cap := b5
    have q5 : (startA r s b).1.cap = r.cap := a5
    omega
end
theorem fname_dName {k : UInt8} {n : Nat} {l : List UInt8} (h : fname k n = l) (hl : l ≠ []) : dName l = true ∧ l.length ≤ 11 ∧ l ≠ currentL ∧ l ≠ freshL := by
  obtain ⟨h1, h2, h3, rfl⟩ := fname_form h hl
  have h4 := dec_len9 8 n (by omega)
  refine ⟨?_, by simp; omega, fun e => ?_, fun e => ?_⟩
  · unfold dName
    rw [Bool.and_eq_true, Bool.and_eq_true, decide_eq_true_eq, decide_eq_true_eq]
    refine ⟨⟨?_, by simp⟩, by simp; omega⟩
    rw [List.all_cons, List.all_cons, Bool.and_eq_true, Bool.and_eq_true, List.all_eq_true]
    refine ⟨?_, rfl, fun x hx => ?_⟩
    · unfold fkind at h1
      simp only [Bool.or_eq_true, beq_iff_eq] at h1
      rcases h1 with (rfl | rfl) | rfl <;> rfl
    · have := dec_digit n x hx
      unfold dByte
      simp only [Bool.or_eq_true, Bool.and_eq_true, decide_eq_true_eq, UInt8.le_iff_toNat_le]
      exact .inl (.inl (.inr this))
  · have := congrArg (fun l => l[1]?) e
    simp at this
  · have := congrArg (fun l => l[1]?) e
    simp at this
theorem readB_le {r : RD} (n : Nat) (hv : ∀ s c, r.view s = some c → c.length ≤ n) (s : List UInt8) : (r.readB s).length ≤ n := by
  unfold RD.readB
  split
  · rename_i hf
    obtain ⟨_, _, i, hi⟩ := findE_zero hf
    have h1 : r.num s = i := by unfold RD.num; rw [hi]; rfl
    rw [h1]
    exact hv s _ (by unfold RD.view; rw [hi]; rfl)
  · exact Nat.zero_le _
/-- the number of bytes that a version's edit takes -/
def Ver.bulk (v : Ver) : Nat := v.up.whole.bytes.length
/-- what Start makes of a disk that is up -/
structure Started (r : RD) (v : Ver) : Prop where
  err : (startR r v).2 = (v.up, v.next, 0)
  ok : Okd (startR r v).1
  view : ∀ t, (startR r v).1.view t = if t = currentL then some (fname 109 v.next.toNat) else if t = freshL then none else if t = fname 109 v.next.toNat then some (sealL v.up.whole.bytes) else r.view t
  used : (startR r v).1.used ≤ r.used + (8 + v.bulk) + 11
  cap : (startR r v).1.cap = r.cap
theorem up_ok {v : Ver} (h : v.ok = true) (hn : v.next ≤ 999999999) : v.up.ok = true := by
  obtain ⟨h1, h2, h3⟩ := Ver.ok_iff.1 h
  refine Ver.ok_iff.2 ⟨?_, ?_, h3⟩
  · unfold Ver.headOk Ver.up at *
    simp only [Bool.and_eq_true, Bool.not_eq_true', decide_eq_true_eq] at h1 ⊢
    obtain ⟨⟨⟨⟨a1, a2⟩, a3⟩, a4⟩, a5⟩ := h1
    exact ⟨⟨⟨⟨by omega, oddI_no.2 (by omega)⟩, a3⟩, by omega⟩, a5⟩
  · intro i hi
    have := h2 i hi
    unfold stepOk at *
    show (match v.tables[i]? with | none => true | some t => t.ok (v.next + 1) && _) = true
    cases ht : v.tables[i]? with
    | none => rfl
    | some t =>
      rw [ht] at this
      simp only [Bool.and_eq_true] at this ⊢
      refine ⟨?_, this.2⟩
      have h4 := this.1
      unfold Tbl.ok at h4 ⊢
      simp only [Bool.and_eq_true, decide_eq_true_eq] at h4 ⊢
      obtain ⟨⟨⟨⟨⟨⟨c1, c2⟩, c3⟩, c4⟩, c5⟩, c6⟩, c7⟩ := h4
      exact ⟨⟨⟨⟨⟨⟨c1, by omega⟩, c3⟩, c4⟩, c5⟩, c6⟩, c7⟩
theorem startR_ok {r : RD} {v : Ver} (h : Okd r) (hv : v.ok = true) (hn : fname 109 v.next.toNat ≠ []) (hx : r.view (fname 109 v.next.toNat) = none) (hb : r.used + (8 + v.bulk) + 11 ≤ r.cap) : Started r v := by
  obtain ⟨g1, g2, g3, g4⟩ := fname_dName rfl hn
  have hnx := (fname_form rfl hn).2.2.1
  have hr := Ver.whole_right (up_ok hv (by omega))
  unfold Ver.bulk at hb
  obtain ⟨e1, e2, e3, e4, e5⟩ := start_up (b := sealL v.up.whole.bytes) h g1 hx (by rw [sealL_len]; omega)
  have e : startR r v = ((startS r (fname 109 v.next.toNat) (sealL v.up.whole.bytes)).1, (v.up, v.next, 0)) := by
    unfold startR
    rw [if_neg (by rintro (h | h); rw [hv] at h; cases h; exact hn h), if_neg (by rw [hr]; simp), if_neg (by rw [e1]; simp)]
  refine ⟨by rw [e], by rw [e]; exact e2, by rw [e]; exact e3, ?_, by rw [e]; exact e5⟩
  rw [e]
  rw [sealL_len] at e4
  unfold Ver.bulk
  show (startS r (fname 109 v.next.toNat) (sealL v.up.whole.bytes)).1.used ≤ _
  omega
theorem whole_fits {v : Ver} (h : v.ok = true) (hn : v.floor < 18446744073709551616 ∧ v.head < 18446744073709551616) (hl : v.tables.length ≤ 1000000) (ht : ∀ t ∈ v.tables, t.first.size ≤ 1000000 ∧ t.last.size ≤ 1000000) : v.whole.fits :=
  ⟨Ver.whole_right h, hn.1, hn.2, by show v.tables.length < _; omega, by show (0 : Nat) < _; omega, fun t ht' => by have := ht t ht'; omega⟩
/-- what counts on a disk whose current is that name, with these bytes -/
theorem loadR_of {r : RD} (h : Okd r) {n : Nat} {c : List UInt8} (hn : fname 109 n ≠ []) (hc : r.view currentL = some (fname 109 n)) (hm : r.view (fname 109 n) = some c) : loadR r = loadM n c := by
  obtain ⟨g1, g2, g3, g4⟩ := fname_dName rfl hn
  obtain ⟨f1, _⟩ := h.find cur_name hc
  obtain ⟨f2, _⟩ := h.find g1 hm
  unfold loadR
  rw [if_neg (by rw [f1]; simp), h.readB cur_name hc, fnum_of rfl hn, f2, h.readB g1 hm]
  show (if (109 : UInt8) ≠ 109 then _ else if (0 : Int) ≠ 0 then _ else loadM n c) = _
  rw [if_neg (by simp), if_neg (by simp)]
theorem loadR_none {r : RD} (h : Okd r) (hc : r.view currentL = none) : loadR r = (Ver.zero, 0, 4) := by
  obtain ⟨f1, _⟩ := h.miss cur_name hc
  unfold loadR
  rw [f1, if_pos (by decide)]
theorem Started.load {r : RD} {v : Ver} (h : Started r v) (hv : v.ok = true) (hn : fname 109 v.next.toNat ≠ []) (hf : v.up.whole.fits) (hl : v.bulk < 4294967296) : loadR (startR r v).1 = (v.up, v.next, 0) := by
  obtain ⟨g1, g2, g3, g4⟩ := fname_dName rfl hn
  obtain ⟨_, h1, h3, _⟩ := fname_form rfl hn
  rw [loadR_of h.ok hn (by rw [h.view, if_pos rfl]) (by rw [h.view, if_neg g3, if_neg g4, if_pos rfl])]
  unfold loadM
  rw [loadB_whole (up_ok hv (by omega)) hf hl]
  show (v.up, ((v.next.toNat : Nat) : Int), (0 : Int)) = _
  rw [show ((v.next.toNat : Nat) : Int) = v.next by omega]
/-- what a version says is one version's saying alone -/
theorem VerOwn.agg {B : Nat} {w : World} {v : Value} {x : Ver} (h : VerOwn B w v x) : ∃ p c, v = .agg #[.slice p x.tables.length c, .int .u64 x.floor, .int .u64 x.head, .int .i64 x.log, .int .i64 x.next] ∧ rkT.Own B w (.slice p x.tables.length c) x.tables := by
  obtain ⟨sv, rfl, ho⟩ := h
  obtain ⟨p, c, rfl⟩ := ho.slice
  exact ⟨p, c, rfl, ho⟩
end Go.Proofs.YtabcdodjkfknlaaGreatDoor
namespace Go.Proofs.YtabcdodjkfknlaaGreatDoor
open Go.RowKit
attribute [local go_sem] Oper.semAt_some
/-- whether two tables are the same -/
def sameTbl (t u : Tbl) : Bool := (t.num == u.num) && ((t.level == u.level) && ((t.size == u.size) && ((t.first.toList == u.first.toList) && (t.last.toList == u.last.toList))))
theorem bytes_eq {a b : ByteArray} (h : a.toList = b.toList) : a = b := by
  rw [Lib.toList_data, Lib.toList_data] at h
  exact bytes_ext h
theorem sameTbl_iff {t u : Tbl} : sameTbl t u = true ↔ t = u := by
  unfold sameTbl
  simp only [Bool.and_eq_true, beq_iff_eq]
  constructor
  · rintro ⟨h1, h2, h3, h4, h5⟩
    obtain ⟨a, b, c, d, e⟩ := t
    obtain ⟨a', b', c', d', e'⟩ := u
    simp only at h1 h2 h3 h4 h5
    rw [h1, h2, h3, bytes_eq h4, bytes_eq h5]
  · rintro rfl
    exact ⟨rfl, rfl, rfl, rfl, rfl⟩
set_option maxHeartbeats 2000000 in
theorem neq_tbl (t u : Tbl) (w : World) :
    (binOp .neq 76 (.agg #[.int .i64 t.num, .int .i64 t.level, .int .i64 t.size, .string t.first, .string t.last]) (.agg #[.int .i64 u.num, .int .i64 u.level, .int .i64 u.size, .string u.first, .string u.last])).run Tryz.prog w = .ok (.bool (!sameTbl t u)) w := by
  unfold sameTbl
  cases h0 : t.num == u.num
  · simp [go_sem, h0]
  cases h1 : t.level == u.level
  · simp [go_sem, h0, h1]
  cases h2 : t.size == u.size
  · simp [go_sem, h0, h1, h2]
  cases h3 : t.first.toList == u.first.toList
  · simp [go_sem, h0, h1, h2, h3]
  · by_cases h4 : t.last.toList = u.last.toList <;> simp [go_sem, h0, h1, h2, h3, h4]
/-- a Bool that tells whether something is so -/
def SameP (p : Prop) (w : World) (e : Ending) (w' : World) : Prop := ∃ b : Bool, e = .returned (.bool b) ∧ (b = true ↔ p) ∧ Below w.heap.size w w'
set_option maxHeartbeats 4000000 in
set_option maxRecDepth 100000 in
theorem sameTables_calls (p q : Option Addr) (c d : Nat) (l m : List Tbl) (w : World) (hA : rkT.At w p l) (hB : rkT.At w q m) (hl : l.length ≤ 1000000) (hm : m.length ≤ 1000000) :
    Calls Tryz.prog 63 #[.slice p l.length c, .slice q m.length d] w (SameP (l = m) w) := by
  obtain ⟨PP, hPP⟩ : ∃ PP, SameP (l = m) w = PP := ⟨_, rfl⟩
  rw [hPP]
  have hPP' := Lib.hid hPP
  clear hPP
  have hA' := Lib.hid hA
  have hB' := Lib.hid hB
  clear hA hB
  obtain ⟨L, hL⟩ : ∃ L, l.length = L := ⟨_, rfl⟩
  obtain ⟨M, hM⟩ : ∃ M, m.length = M := ⟨_, rfl⟩
  have hL' := Lib.hid hL
  have hM' := Lib.hid hM
  rw [hL] at hl ⊢
  rw [hM] at hm ⊢
  clear hL hM
  by_cases hn : L = M
  · subst hn
    go_enter Tryz.func63, Tryz.ntmps63
    go_wp2
    go_loopw [5, 13] (fun _ i wr => ∃ k : Nat, i = .int .i64 k ∧ k ≤ L ∧ l.take k = m.take k ∧ Below w.heap.size w wr) (fun _ i _ => L - (intOf i).toNat)
    case atStart => exact ⟨0, rfl, by omega, rfl, Below.refl _ _⟩
    case round =>
      obtain ⟨wo, rfl⟩ : ∃ wo : World, wo = wr := ⟨_, rfl⟩
      obtain ⟨k, rfl, hk, htk, hb⟩ := hrel
      have htk' := Lib.hid htk
      clear htk
      by_cases hlt : k < L
      · obtain ⟨t, ht⟩ : ∃ t, l[k]? = some t := ⟨_, List.getElem?_eq_getElem (by rw [hL'.out]; exact hlt)⟩
        obtain ⟨u, hu⟩ : ∃ u, m[k]? = some u := ⟨_, List.getElem?_eq_getElem (by rw [hM'.out]; exact hlt)⟩
        obtain ⟨a, b, rfl, hab, hbl, q0, q1, q2, q3, q4⟩ := tbl_at (hA'.out.below hb) ht
        obtain ⟨a', b', rfl, hab', hbl', r0, r1, r2, r3, r4⟩ := tbl_at (hB'.out.below hb) hu
        have hne := fun W => neq_tbl t u W
        have ht' := Lib.hid ht
        have hu' := Lib.hid hu
        have hb' := Lib.hid hb
        clear ht hu hb
        have n1 : 0 < L := by omega
        obtain ⟨S, hS⟩ : ∃ S, sameTbl t u = S := ⟨_, rfl⟩
        rw [hS] at hne
        have hS' := Lib.hid hS
        clear hS
        cases S with
        | true =>
          rw [Bool.not_true] at hne
          go_wp2_with fail
          go_quiet (fail)
          go_wp2
          refine ⟨⟨k + 1, by go_num, by omega, ?_, bdrewN hb'.out _⟩, by simp only [intOf]; omega⟩
          rw [List.take_add_one, List.take_add_one, ht'.out, hu'.out, htk'.out, sameTbl_iff.1 hS'.out]
        | false =>
          rw [Bool.not_false] at hne
          go_wp2_with fail
          go_quiet (fail)
          go_wp2
          rw [← hPP'.out]
          refine ⟨false, rfl, ⟨fun h => (by cases h), ?_⟩, bdrewN hb'.out _⟩
          rintro rfl
          have h1 := ht'.out.symm.trans hu'.out
          obtain rfl := Option.some.inj h1
          rw [sameTbl_iff.2 rfl] at hS'
          exact absurd hS'.out (by decide)
      · obtain rfl : k = L := by omega
        have hb' := Lib.hid hb
        clear hb
        go_wp2
        rw [← hPP'.out]
        refine ⟨true, rfl, ⟨fun _ => ?_, fun _ => rfl⟩, hb'.out⟩
        have := htk'.out
        rwa [List.take_of_length_le (by rw [hL'.out]; exact Nat.le_refl _), List.take_of_length_le (by rw [hM'.out]; exact Nat.le_refl _)] at this
  · have hne : ((L : Int) != (M : Int)) = true := by simp; omega
    have hne2 : (L != M) = true := by simp; omega
    have hne3 : (L == M) = false := by simp; omega
    have hn' := Lib.hid hn
    clear hn
    go_enter Tryz.func63, Tryz.ntmps63
    go_wp2
    rw [← hPP'.out]
    exact ⟨false, rfl, by constructor; (intro h; cases h); (rintro rfl; exact absurd (hL'.out.symm.trans hM'.out) hn'.out), Below.refl _ _⟩
end Go.Proofs.YtabcdodjkfknlaaGreatDoor
namespace Go.Proofs.YtabcdodjkfknlaaGreatDoor
open Go.RowKit
attribute [local go_sem] Oper.semAt_some
set_option maxHeartbeats 4000000 in
set_option maxRecDepth 100000 in
theorem same21_calls (va vb : Value) (x y : Ver) (w : World) (ha : VerIs w va x) (hb : VerIs w vb y) :
    Calls Tryz.prog 23 #[va, vb] w (SameP (x = y) w) := by
  obtain ⟨⟨p, c, rfl, hA⟩, hal, _, _⟩ := ha
  obtain ⟨⟨q, d, rfl, hB⟩, hbl, _, _⟩ := hb
  obtain ⟨W2, hW2⟩ : ∃ W2, (w.alloc (.cells #[.slice p x.tables.length c, .int .u64 x.floor, .int .u64 x.head, .int .i64 x.log, .int .i64 x.next] 30)).alloc (.cells #[.slice q y.tables.length d, .int .u64 y.floor, .int .u64 y.head, .int .i64 y.log, .int .i64 y.next] 30) = W2 := ⟨_, rfl⟩
  have b1 : Blk W2 w.heap.size 30 #[.slice p x.tables.length c, .int .u64 x.floor, .int .u64 x.head, .int .i64 x.log, .int .i64 x.next] := by rw [← hW2]; exact (Blk.new w _ _).alloc _
  have b2 : Blk W2 (w.heap.size + 1) 30 #[.slice q y.tables.length d, .int .u64 y.floor, .int .u64 y.head, .int .i64 y.log, .int .i64 y.next] := by
    rw [← hW2]
    have := Blk.new (w.alloc (.cells #[.slice p x.tables.length c, .int .u64 x.floor, .int .u64 x.head, .int .i64 x.log, .int .i64 x.next] 30)) 30 #[.slice q y.tables.length d, .int .u64 y.floor, .int .u64 y.head, .int .i64 y.log, .int .i64 y.next]
    rw [World.size_alloc] at this; exact this
  have hB2 : Below w.heap.size w W2 := by rw [← hW2]; exact ((Below.refl _ w).alloc (Nat.le_refl _) _).alloc (by simp) _
  have c1 := b1.cell
  have c2 := b2.cell
  have hS := Lib.hid (sameTables_calls p q c d x.tables y.tables W2 (hA.below hB2) (hB.below hB2) hal hbl)
  have b1' := Lib.hid b1
  have b2' := Lib.hid b2
  have hB2' := Lib.hid hB2
  obtain ⟨L, hL⟩ : ∃ L, x.tables.length = L := ⟨_, rfl⟩
  obtain ⟨M, hM⟩ : ∃ M, y.tables.length = M := ⟨_, rfl⟩
  rw [hL, hM] at hS
  rw [hL] at c1 b1'
  rw [hM] at c2 b2'
  rw [hL, hM] at hW2 ⊢
  obtain ⟨PP, hPP⟩ : ∃ PP, SameP (x = y) w = PP := ⟨_, rfl⟩
  rw [hPP]
  have hiff : x = y ↔ x.tables = y.tables ∧ (x.floor : Int) = (y.floor : Int) ∧ (x.head : Int) = (y.head : Int) ∧ x.log = y.log ∧ x.next = y.next := by
    constructor
    · rintro rfl; exact ⟨rfl, rfl, rfl, rfl, rfl⟩
    · rintro ⟨h1, h2, h3, h4, h5⟩
      obtain ⟨_, _, _, _, _⟩ := x
      obtain ⟨_, _, _, _, _⟩ := y
      simp only at h1 h2 h3 h4 h5
      rw [h1, h4, h5, Int.ofNat.inj h2, Int.ofNat.inj h3]
  have hPP' : ∀ b : Bool, ∀ w', Below w.heap.size w w' → (b = true ↔ x.tables = y.tables ∧ (x.floor : Int) = (y.floor : Int) ∧ (x.head : Int) = (y.head : Int) ∧ x.log = y.log ∧ x.next = y.next) → PP (.returned (.bool b)) w' := fun b w' hb h => by
    rw [← hPP]; exact ⟨b, rfl, h.trans hiff.symm, hb⟩
  have hPP'' := Lib.hid hPP'
  obtain ⟨T, hT⟩ : ∃ T, (x.tables = y.tables) = T := ⟨_, rfl⟩
  rw [hT] at hS hPP''
  clear hL hM hPP hPP' hiff hT b1 b2 hB2 hA hB hal hbl
  obtain ⟨xf, hxf⟩ : ∃ k : Int, (x.floor : Int) = k := ⟨_, rfl⟩
  obtain ⟨yf, hyf⟩ : ∃ k : Int, (y.floor : Int) = k := ⟨_, rfl⟩
  obtain ⟨xh, hxh⟩ : ∃ k : Int, (x.head : Int) = k := ⟨_, rfl⟩
  obtain ⟨yh, hyh⟩ : ∃ k : Int, (y.head : Int) = k := ⟨_, rfl⟩
  rw [hxf, hxh] at c1 b1' hW2 hPP'' ⊢
  rw [hyf, hyh] at c2 b2' hW2 hPP'' ⊢
  clear hxf hyf hxh hyh
  generalize x.log = xl at *
  generalize x.next = xn at *
  generalize y.log = yl at *
  generalize y.next = yn at *
  by_cases e1 : xf = yf
  · subst e1
    by_cases e2 : xh = yh
    · subst e2
      by_cases e3 : xl = yl
      · subst e3
        by_cases e4 : xn = yn
        · subst e4
          go_enter Tryz.func23, Tryz.ntmps23
          go_wp2_with fail
          refine hS.out.mono ?_
          rintro e w3 ⟨b, rfl, hbT, hb3⟩
          have b13 := (b1'.out.below hb3 b1'.out.lt).cell
          have b23 := (b2'.out.below hb3 b2'.out.lt).cell
          have hB3 := Lib.hid (hB2'.out.trans (hb3.mono hB2'.out.size))
          have hbT' := Lib.hid hbT
          clear hb3 hbT c1 c2
          cases b
          · go_wp2_with fail
            exact hPP''.out _ _ hB3.out (by have := hbT'.out; simp at this; simp [this])
          · go_wp2_with fail
            exact hPP''.out _ _ hB3.out (by have := hbT'.out; simp at this; simp [this])
        · have t4 : (xn == yn) = false := by simpa using e4
          go_enter Tryz.func23, Tryz.ntmps23
          go_wp2_with fail
          refine hS.out.mono ?_
          rintro e w3 ⟨b, rfl, hbT, hb3⟩
          have b13 := (b1'.out.below hb3 b1'.out.lt).cell
          have b23 := (b2'.out.below hb3 b2'.out.lt).cell
          have hB3 := Lib.hid (hB2'.out.trans (hb3.mono hB2'.out.size))
          clear hb3 hbT c1 c2
          have e4' := Lib.hid e4
          clear e4
          cases b <;> (
            go_wp2_with fail
            exact hPP''.out _ _ hB3.out (by simp [e4'.out]))
      · have t3 : (xl == yl) = false := by simpa using e3
        go_enter Tryz.func23, Tryz.ntmps23
        go_wp2_with fail
        refine hS.out.mono ?_
        rintro e w3 ⟨b, rfl, hbT, hb3⟩
        have b13 := (b1'.out.below hb3 b1'.out.lt).cell
        have b23 := (b2'.out.below hb3 b2'.out.lt).cell
        have hB3 := Lib.hid (hB2'.out.trans (hb3.mono hB2'.out.size))
        clear hb3 hbT c1 c2
        have e3' := Lib.hid e3
        clear e3
        cases b <;> (
          go_wp2_with fail
          exact hPP''.out _ _ hB3.out (by simp [e3'.out]))
    · have t2 : (xh == yh) = false := by simpa using e2
      go_enter Tryz.func23, Tryz.ntmps23
      go_wp2_with fail
      refine hS.out.mono ?_
      rintro e w3 ⟨b, rfl, hbT, hb3⟩
      have b13 := (b1'.out.below hb3 b1'.out.lt).cell
      have b23 := (b2'.out.below hb3 b2'.out.lt).cell
      have hB3 := Lib.hid (hB2'.out.trans (hb3.mono hB2'.out.size))
      clear hb3 hbT c1 c2
      have e2' := Lib.hid e2
      clear e2
      cases b <;> (
        go_wp2_with fail
        exact hPP''.out _ _ hB3.out (by simp [e2'.out]))
  · have t1 : (xf == yf) = false := by simpa using e1
    go_enter Tryz.func23, Tryz.ntmps23
    go_wp2_with fail
    refine hS.out.mono ?_
    rintro e w3 ⟨b, rfl, hbT, hb3⟩
    have b13 := (b1'.out.below hb3 b1'.out.lt).cell
    have b23 := (b2'.out.below hb3 b2'.out.lt).cell
    have hB3 := Lib.hid (hB2'.out.trans (hb3.mono hB2'.out.size))
    clear hb3 hbT c1 c2
    have e1' := Lib.hid e1
    clear e1
    cases b <;> (
      go_wp2_with fail
      exact hPP''.out _ _ hB3.out (by simp [e1'.out]))
end Go.Proofs.YtabcdodjkfknlaaGreatDoor
namespace Go.Proofs.YtabcdodjkfknlaaGreatDoor
open Go.RowKit
attribute [local go_sem] Oper.semAt_some
theorem keeps_below {w w' : World} {B : Nat} {O : Nat → Prop} (hk : Keeps O w w') (hO : ∀ j, O j → B ≤ j) (hB : B ≤ w.heap.size) : Below B w w' := hk.below (fun j _ e => hO j e) hB
/-- a version's bounds as they stand in memory -/
theorem VerOwn.is2 {B : Nat} {w : World} {v : Value} {x : Ver} (h : VerOwn B w v x) (hl : x.tables.length ≤ 1000000) (hlang : ∀ t ∈ x.tables, t.lang) (hn : x.floor < 18446744073709551616 ∧ x.head < 18446744073709551616 ∧ -9223372036854775808 ≤ x.log ∧ x.log < 9223372036854775808 ∧ -9223372036854775808 ≤ x.next ∧ x.next < 9223372036854775808) : VerIs w v x := by
  obtain ⟨p, c, e, ho⟩ := h.agg
  exact ⟨⟨p, c, e, ho.at_ rkT_ok⟩, hl, hlang, hn⟩
def fixR : RD := RD.new 10000
theorem fix_bulk : Ver.first.bulk = 6 := by
  unfold Ver.bulk
  show (uv 0 ++ [] ++ uv 0 ++ [] ++ uv 0 ++ uv 0 ++ uv 0 ++ uv 2).length = 6
  rw [uv_small (by decide), uv_small (by decide)]
  rfl
theorem fix_name : fname 109 Ver.first.next.toNat ≠ [] := by unfold fname; rw [if_pos ⟨rfl, by decide, by decide⟩]; exact List.cons_ne_nil _ _
theorem fix_started : Started fixR Ver.first := by
  refine startR_ok (Okd.new _) (by kernel_rfl) fix_name rfl ?_
  rw [fix_bulk]
  show (0 : Nat) + (8 + 6) + 11 ≤ 10000
  decide
theorem fix_load : loadR (startR fixR Ver.first).1 = (Ver.first.up, 1, 0) := by
  refine fix_started.load (by kernel_rfl) fix_name ?_ (by rw [fix_bulk]; decide)
  exact whole_fits (v := Ver.first.up) (by kernel_rfl) ⟨by show (0 : Nat) < _; decide, by show (0 : Nat) < _; decide⟩ (Nat.zero_le _) (fun t ht => by cases ht)
theorem fix_reads (s : List UInt8) : ((startR fixR Ver.first).1.readB s).length ≤ 200000 := by
  refine readB_le 200000 (fun s c hc => ?_) s
  rw [fix_started.view] at hc
  by_cases h1 : s = currentL
  · rw [if_pos h1] at hc
    obtain rfl := Option.some.inj hc
    have := (fname_dName rfl fix_name).2.1
    omega
  · rw [if_neg h1] at hc
    by_cases h2 : s = freshL
    · rw [if_pos h2] at hc; cases hc
    · rw [if_neg h2] at hc
      by_cases h3 : s = fname 109 Ver.first.next.toNat
      · rw [if_pos h3] at hc
        obtain rfl := Option.some.inj hc
        rw [sealL_len]
        have := fix_bulk
        unfold Ver.bulk at this
        omega
      · rw [if_neg h3] at hc
        cases hc
set_option maxHeartbeats 4000000 in
set_option maxRecDepth 100000 in
theorem fixed21_calls (w : World) (hs : StdF w) : Calls Tryz.prog 8 #[] w fun e w' => e = .returned (.bool true) ∧ Below w.heap.size w w' := by
  have hs' := Lib.hid hs
  clear hs
  go_enter Tryz.func8, Tryz.ntmps8
  go_wp2_with fail
  refine (new_at 10000 w).mono ?_
  rintro e w1 ⟨rfl, h1⟩
  have h1 : At w w1 (w.heap.size + 2) fixR 0 := h1
  have c1 := load_calls h1 (by omega) (fun s => readB_le 200000 (fun s c hc => by cases hc) s) (hs'.out.next h1.below)
  rw [show loadR fixR = _ from loadR_none (Okd.new 10000) rfl] at c1
  have c1' := Lib.hid c1
  have h1' := Lib.hid h1
  clear c1 h1
  go_wp2_with fail
  refine c1'.out.mono ?_
  rintro e w2 ⟨v2, rfl, o2, b2⟩
  obtain ⟨p2, k2, rfl⟩ : ∃ p k, v2 = .agg #[.slice p 0 k, .int .u64 0, .int .u64 0, .int .i64 0, .int .i64 0] := by
    obtain ⟨p, k, e, _⟩ := o2.agg
    exact ⟨p, k, e⟩
  obtain ⟨X2, hX2⟩ : ∃ X, w2.alloc (.cells #[.slice p2 0 k2, .int .u64 0, .int .u64 0, .int .i64 0, .int .i64 0] 30) = X := ⟨_, rfl⟩
  have hAB : Below w2.heap.size w2 X2 := by rw [← hX2]; exact (Below.refl _ w2).alloc (Nat.le_refl _) _
  have h2 := (h1'.out.later b2).later hAB
  have hb2 := h2.below
  obtain ⟨O, hD⟩ := DAt.of_at h2
  have hs2 := hs'.out.next h2.below
  have c3 := start_calls (vv := .agg #[.slice none 0 0, .int .u64 0, .int .u64 0, .int .i64 0, .int .i64 1]) (v := Ver.first) hD ⟨⟨none, 0, rfl, fun k x hx => by cases hx⟩, Nat.zero_le _, fun t ht => (by cases ht), by decide⟩ hs2 (Nat.zero_le _) (by have := fix_bulk; unfold Ver.bulk at this; omega) (fun t ht => by cases ht) (by omega)
  have hX2' := Lib.hid hX2
  have c3' := Lib.hid c3
  have hD' := Lib.hid hD
  have hb2' := Lib.hid hb2
  clear c3 c1' h1' h2 hD b2 o2 hs2 hAB hb2 hX2
  go_wp2_with fail
  rw [hX2'.out]
  refine c3'.out.mono ?_
  rintro e w3 ⟨v3, rfl, o3, hG⟩
  have hb3 : Below w.heap.size w w3 := by
    obtain ⟨_, _, _, hk⟩ := hG
    exact hb2'.out.trans (keeps_below hk (fun j hj => (hD'.out.lt j hj).1) hb2'.out.size)
  have hA3 : At w w3 (w.heap.size + 2) (startR fixR Ver.first).1 6 := by
    obtain ⟨_, hD3, _, _⟩ := hG
    exact hD3.at_ hb3
  rw [show (startR fixR Ver.first).2 = (Ver.first.up, 1, 0) from fix_started.err] at o3 ⊢
  obtain ⟨p3, k3, rfl⟩ : ∃ p k, v3 = .agg #[.slice p 0 k, .int .u64 0, .int .u64 0, .int .i64 0, .int .i64 2] := by
    obtain ⟨p, k, e, _⟩ := o3.agg
    exact ⟨p, k, e⟩
  have o3 : VerOwn X2.heap.size w3 (.agg #[.slice p3 0 k3, .int .u64 0, .int .u64 0, .int .i64 0, .int .i64 2]) Ver.first.up := o3
  obtain ⟨X3, hX3⟩ : ∃ X, w3.alloc (.cells #[.slice p3 0 k3, .int .u64 0, .int .u64 0, .int .i64 0, .int .i64 2] 30) = X := ⟨_, rfl⟩
  have hA : Below w3.heap.size w3 X3 := by rw [← hX3]; exact (Below.refl _ w3).alloc (Nat.le_refl _) _
  have b3 : Blk X3 w3.heap.size 30 #[.slice p3 0 k3, .int .u64 0, .int .u64 0, .int .i64 0, .int .i64 2] := by rw [← hX3]; exact Blk.new w3 _ _
  obtain ⟨V3, hV3⟩ : ∃ V, w3.heap.size = V := ⟨_, rfl⟩
  rw [hV3] at b3
  have h3 := hA3.later hA
  have hb4 := hb3.trans (hA.mono hb3.size)
  have c4 := load_calls h3 (by omega) fix_reads (hs'.out.next hb4)
  rw [fix_load] at c4
  have c4' := Lib.hid c4
  have b3' := Lib.hid b3
  have hb4' := Lib.hid hb4
  have o3' := Lib.hid (o3.later hA)
  have hX3' := Lib.hid hX3
  have hV3' := Lib.hid hV3
  clear c4 b3 hb4 o3 hA h3 hA3 hb3 hG c3' hX2' hX3 hV3
  go_wp2_with fail
  rw [hX3'.out]
  refine c4'.out.mono ?_
  rintro e w4 ⟨v4, rfl, o4, b4⟩
  obtain ⟨p4, k4, rfl⟩ : ∃ p k, v4 = .agg #[.slice p 0 k, .int .u64 0, .int .u64 0, .int .i64 0, .int .i64 2] := by
    obtain ⟨p, k, e, _⟩ := o4.agg
    exact ⟨p, k, e⟩
  have o4 : VerOwn X3.heap.size w4 (.agg #[.slice p4 0 k4, .int .u64 0, .int .u64 0, .int .i64 0, .int .i64 2]) Ver.first.up := o4
  obtain ⟨X4, hX4⟩ : ∃ X, w4.alloc (.cells #[.slice p4 0 k4, .int .u64 0, .int .u64 0, .int .i64 0, .int .i64 2] 30) = X := ⟨_, rfl⟩
  have hA : Below w4.heap.size w4 X4 := by rw [← hX4]; exact (Below.refl _ w4).alloc (Nat.le_refl _) _
  have b34 := (b3'.out.below b4 b3'.out.lt).below hA (Nat.lt_of_lt_of_le b3'.out.lt b4.size)
  have b44 : Blk X4 w4.heap.size 30 #[.slice p4 0 k4, .int .u64 0, .int .u64 0, .int .i64 0, .int .i64 2] := by rw [← hX4]; exact Blk.new w4 _ _
  obtain ⟨V4, hV4⟩ : ∃ V, w4.heap.size = V := ⟨_, rfl⟩
  rw [hV4] at b44
  have hb5 := (hb4'.out.trans (b4.mono hb4'.out.size)).trans (hA.mono (Nat.le_trans hb4'.out.size b4.size))
  have c5 := name_calls 116 12 X4 (by decide) (by decide) (hs'.out.next hb5)
  have hF : (⟨(fname 116 (12 : Int).toNat).toArray⟩ : ByteArray) = ⟨#[116, 45, 49, 50]⟩ := by
    have : fname 116 (12 : Int).toNat = [116, 45, 49, 50] := by
      unfold fname
      rw [if_pos ⟨rfl, by decide, by decide⟩]
      show 116 :: 45 :: Lib.decDigits 12 = _
      rw [Lib.decDigits, dif_neg (by decide), Lib.decDigits, dif_pos (by decide)]
      rfl
    rw [this]
  rw [hF] at c5
  have c5 : Calls Tryz.prog 11 #[.int .u8 116, .int .i64 12] X4 fun e w' => e = .returned (.string ⟨#[116, 45, 49, 50]⟩) ∧ Below X4.heap.size X4 w' := c5
  have o3x := (o3'.out.later b4).later hA
  have o4x := o4.later hA
  have c5' := Lib.hid c5
  have b34' := Lib.hid b34
  have b44' := Lib.hid b44
  have hb5' := Lib.hid hb5
  have o3y := Lib.hid o3x
  have o4y := Lib.hid o4x
  have hX4' := Lib.hid hX4
  have hV4' := Lib.hid hV4
  clear c5 b34 b44 hb5 o3x o4x hA b4 o4 c4' hX3' hX4 hV4 hF
  go_wp2_with fail
  rw [hX4'.out]
  refine c5'.out.mono ?_
  rintro e w5 ⟨rfl, b5⟩
  have b35 := (b34'.out.below b5 b34'.out.lt)
  have b45 := (b44'.out.below b5 b44'.out.lt)
  have hb6 := Lib.hid (hb5'.out.trans (b5.mono hb5'.out.size))
  have hlang : ∀ t ∈ Ver.first.up.tables, t.lang := fun t ht => (by cases ht)
  have hnum : Ver.first.up.floor < 18446744073709551616 ∧ Ver.first.up.head < 18446744073709551616 ∧ -9223372036854775808 ≤ Ver.first.up.log ∧ Ver.first.up.log < 9223372036854775808 ∧ -9223372036854775808 ≤ Ver.first.up.next ∧ Ver.first.up.next < 9223372036854775808 := by decide
  have i3 := (o3y.out.later b5).is2 (Nat.zero_le _) hlang hnum
  have i4 := (o4y.out.later b5).is2 (Nat.zero_le _) hlang hnum
  have c6 := Lib.hid (same21_calls _ _ _ _ w5 i3 i4)
  have q3 := b35.cell
  have q4 := b45.cell
  clear i3 i4 hlang hnum b5 b35 b45 c5' hX4'
  rw [hV3'.out, hV4'.out]
  clear hV3' hV4'
  go_wp2_with fail
  refine c6.out.mono ?_
  rintro e w7 ⟨b, rfl, hbt, hb7⟩
  obtain rfl : b = true := hbt.2 (by trivial)
  have hb8 := Lib.hid (hb6.out.trans (hb7.mono hb6.out.size))
  clear hb7 hbt q3 q4 c6
  go_wp2_with fail
  go_ret
  exact ⟨rfl, hb8.out⟩
end Go.Proofs.YtabcdodjkfknlaaGreatDoor
namespace Go.Proofs.YtabcdodjkfknlaaGreatDoor
open Go.RowKit
attribute [local go_sem ↓] dapp_op dslK_op
attribute [local go_sem] Oper.semAt_some
end Go.Proofs.YtabcdodjkfknlaaGreatDoor
namespace Go.Proofs.YtabcdodjkfknlaaGreatDoor
open Go.RowKit
end Go.Proofs.YtabcdodjkfknlaaGreatDoor
namespace Go.Proofs.YtabcdodjkfknlaaGreatDoor
open Go.RowKit Go.Maps
/-- a type that no block of a disk has -/
def notDisk (T : TypeId) : Prop := T ≠ 82 ∧ T ≠ 116 ∧ T ≠ 101 ∧ T ≠ 5
end Go.Proofs.YtabcdodjkfknlaaGreatDoor
namespace Go.Proofs.YtabcdodjkfknlaaGreatDoor
open Go.RowKit
attribute [local go_sem ↓] dapp_op dslK_op
attribute [local go_sem] Oper.semAt_some
/-- a version as an argument, and an edit -/
structure VerArg (w : World) (p : Option Addr) (c : Nat) (v : Ver) : Prop where
  is : VerIs w (.agg #[.slice p v.tables.length c, .int .u64 v.floor, .int .u64 v.head, .int .i64 v.log, .int .i64 v.next]) v
  cap : v.tables.length ≤ c
  slim : slim v.tables
structure EdtArg (w : World) (p : Option Addr) (q : Option Addr) (d : Nat) (x : Edt) : Prop where
  add : rkT.At w p x.add
  drop : rkI.At w q x.drop
  nil : q = none → d = 0
  len : x.add.length ≤ 1000000 ∧ x.drop.length ≤ 2000000
  lang : ∀ t ∈ x.add, t.lang
  langI : ∀ t ∈ x.drop, -9223372036854775808 ≤ t ∧ t < 9223372036854775808
  nums : x.floor < 18446744073709551616 ∧ x.head < 18446744073709551616 ∧ -9223372036854775808 ≤ x.log ∧ x.log < 9223372036854775808 ∧ -9223372036854775808 ≤ x.next ∧ x.next < 9223372036854775808
  slim : slim x.add
/-- the law returns true -/
def LawTrue (w : World) (e : Ending) (w' : World) : Prop := e = .returned (.bool true) ∧ Below w.heap.size w w'
def tornR : RD := RD.new 16777216
end Go.Proofs.YtabcdodjkfknlaaGreatDoor
namespace Go.Proofs.YtabcdodjkfknlaaGreatDoor
open Go.RowKit
theorem rowStr_at {w : World} {p : Option Addr} {c : Nat} {l : List (List UInt8)} (h : RowAt w 9 (.slice p l.length c) l.length (l.map encStr)) {k : Nat} (hk : k < l.length) : ∃ (g : Nat) (s : ByteArray), p = some ⟨g, 0, none⟩ ∧ l.length ≤ c ∧ g < w.heap.size ∧ s.data.toList = l[k] ∧ w.cell? ⟨g, k, none⟩ = some (.string s) := by
  obtain ⟨g, c', hv, hc, hl, h⟩ := h.cell (by omega)
  injection hv with e1 _ e2
  refine ⟨g, ⟨l[k].toArray⟩, e1, by omega, hl, by simp, h k _ ?_⟩
  rw [List.getElem?_map, List.getElem?_eq_getElem hk]; rfl
set_option maxHeartbeats 2000000 in
set_option maxRecDepth 100000 in
theorem same11_calls (l : List (List UInt8)) (v1 v2 : Value) (w : World) (h1 : RowAt w 9 v1 l.length (l.map encStr)) (h2 : RowAt w 9 v2 l.length (l.map encStr)) (hl : l.length ≤ 100000) :
    Calls Tryz.prog 25 #[v1, v2] w fun e w' => e = .returned (.bool true) ∧ Below w.heap.size w w' := by
  obtain ⟨p1, c1, rfl⟩ := h1.slice
  obtain ⟨p2, c2, rfl⟩ := h2.slice
  have h1' := Lib.hid h1
  have h2' := Lib.hid h2
  clear h1 h2
  go_enter Tryz.func25, Tryz.ntmps25
  go_wp2_with fail
  go_loopw [5, 13] (fun _ i wr => ∃ k : Nat, k ≤ l.length ∧ i = .int .i64 k ∧ Below w.heap.size w wr) (fun _ i _ => l.length - (intOf i).toNat)
  case atStart => exact ⟨0, Nat.zero_le _, rfl, Below.refl _ _⟩
  case round =>
    obtain ⟨k, hk, rfl, hB⟩ := hrel
    by_cases hlt : k < l.length
    · obtain ⟨g1, s1, rfl, hc1, hg1, e1, q1⟩ := rowStr_at h1'.out hlt
      obtain ⟨g2, s2, rfl, hc2, hg2, e2, q2⟩ := rowStr_at h2'.out hlt
      have es : s1 = s2 := by
        apply ByteArray.ext; apply Array.toList_inj.1; rw [e1, e2]
      subst es
      have q1' := (hB.cell (p := ⟨g1, k, none⟩) hg1).trans q1
      have q2' := (hB.cell (p := ⟨g2, k, none⟩) hg2).trans q2
      have k0 : (0 : Int) ≤ (k : Int) := by omega
      have k1 : (k : Int) < (l.length : Int) := by omega
      have hss : (s1.toList != s1.toList) = false := by simp
      clear e1 e2 q1 q2
      go_wp2_with fail
      go_quiet (fail)
      rename_i nq
      go_wp2_with fail
      go_roundw
      case rel => exact ⟨k + 1, by omega, by go_num, bdrewN hB nq⟩
      case measure => simp [intOf]; omega
    · go_wp2_with fail
      go_ret
      exact ⟨rfl, hB⟩
/-- a version as an element of a slice -/
structure VEl where
  p : Option Addr
  c : Nat
  v : Ver
def VEl.cells (z : VEl) : List Value := [.slice z.p z.v.tables.length z.c, .int .u64 z.v.floor, .int .u64 z.v.head, .int .i64 z.v.log, .int .i64 z.v.next]
def rkV : RowK VEl := ⟨50, 30, 5, VEl.cells⟩
/-- a disk that is up, with room for more versions -/
structure StInv (r : RD) (k : Nat) : Prop where
  ok : Okd r
  cap : r.cap = 16777216
  used : r.used ≤ k * 14200
  view : ∀ s c, r.view s = some c → c.length ≤ 20000
end Go.Proofs.YtabcdodjkfknlaaGreatDoor
