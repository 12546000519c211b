/- Walks: the document's disk: burn, may, done. Walks: the document's disk: act. The document's disk, in plain words: what stays true of it, whatever is done. Walks: the document's disk: New, Fuse, Create, SyncDir, Rename, Remove. Walks: the document's disk: New. -/
import Derived.Test.YtabcdodjkfknlaaGreatDoorPL17
import Derived.Test.YtabcdodjkfknlaaGreatDoorPL05
namespace Go.Proofs.YtabcdodjkfknlaaGreatDoor
open Go.RowKit Go.Maps Go.Shelf
section
variable {w w' : World} {B g : Nat} {vF vD vS vA : Value} {dv : List Value} {r : RD}
/-- what burn leaves -/
structure Burnt (w : World) (B g : Nat) (vF vD vS vA : Value) (dv : List Value) (r : RD) (w' : World) : Prop where
  dat : RDat w' B g vF vD vS vA dv r.burn
  keeps : Keeps (fun j => j = g) w w'
end
set_option maxHeartbeats 1000000 in
theorem rburn_calls (r : RD) (B g : Nat) (vF vD vS vA : Value) (dv : List Value) (w : World) (hd : RDat w B g vF vD vS vA dv r) (hf : -1 ≤ r.left ∧ r.left < 9223372036854775808) :
    Calls Tryz.prog 119 #[.pointer (some ⟨g, 0, none⟩)] w fun e w' => e = .returned (.bool r.burns) ∧ Burnt w B g vF vD vS vA dv r w' := by
  have qc := hd.blk.cell
  have qf := hd.blk.frozen
  have hd' := Lib.hid hd
  clear hd
  rcases Int.lt_trichotomy r.left 0 with h | h | h
  · have e1 : r.burn = r := by unfold RD.burn; rw [if_neg (by omega), if_neg (by omega)]
    have e2 : r.burns = true := by unfold RD.burns; simp; omega
    have e0 : (r.left == 0) = false := by rw [beq_eq_false_iff_ne]; omega
    have hn : ¬ 0 < r.left := by omega
    have hp : Burnt w B g vF vD vS vA dv r w := ⟨by rw [e1]; exact hd'.out, Keeps.refl _ _⟩
    have hp' := Lib.hid hp
    rw [e2]
    clear hp e1 e2
    go_enter Tryz.func119, Tryz.ntmps119
    go_wp2
    go_ret
    exact ⟨rfl, hp'.out⟩
  · have e1 : r.burn = { r with down := true } := by unfold RD.burn; rw [if_pos h]
    have e2 : r.burns = false := by unfold RD.burns; rw [h]; rfl
    have e0 : (r.left == 0) = true := by rw [h]; rfl
    have hp : Burnt w B g vF vD vS vA dv r (w.setCell ⟨g, 1, none⟩ (.bool true)) := ⟨by rw [e1]; exact ⟨hd'.out.blk.set_ 1 _, hd'.out.rest_set 1 _, hd'.out.low⟩, (Keeps.refl (fun j => j = g) w).setCell (p := ⟨g, 1, none⟩) (.inl rfl) _⟩
    have hp' := Lib.hid hp
    rw [e2]
    clear hp e1 e2
    go_enter Tryz.func119, Tryz.ntmps119
    go_wp2
    go_ret
    exact ⟨rfl, hp'.out⟩
  · have e1 : r.burn = { r with left := r.left - 1 } := by unfold RD.burn; rw [if_neg (by omega), if_pos h]
    have e2 : r.burns = true := by unfold RD.burns; simp; omega
    have e0 : (r.left == 0) = false := by rw [beq_eq_false_iff_ne]; omega
    have hp : Burnt w B g vF vD vS vA dv r (w.setCell ⟨g, 2, none⟩ (.int .i64 (r.left - 1))) := ⟨by rw [e1]; exact ⟨hd'.out.blk.set_ 2 _, hd'.out.rest_set 2 _, hd'.out.low⟩, (Keeps.refl (fun j => j = g) w).setCell (p := ⟨g, 2, none⟩) (.inl rfl) _⟩
    have hp' := Lib.hid hp
    rw [e2]
    clear hp e1 e2
    go_enter Tryz.func119, Tryz.ntmps119
    go_wp2
    go_ret
    exact ⟨rfl, hp'.out⟩
def goodN (s : ByteArray) : Bool := dName s.data.toList
theorem all_goodN {l : List ByteArray} {k : Nat} {s : ByteArray} (h : (l.take k).all goodN = true) (hs : l[k]? = some s) (hg : goodN s = true) : (l.take (k + 1)).all goodN = true := by
  rw [List.take_add_one, hs, List.all_append, h]; simp [hg]
theorem all_badN {l : List ByteArray} {k : Nat} {s : ByteArray} (hs : l[k]? = some s) (hg : goodN s = false) : l.all goodN = false := all_not hs hg
def mayE (dn : Bool) (l : List ByteArray) : Int := if dn then 6 else if l.all goodN then 0 else 2
set_option maxHeartbeats 1000000 in
theorem rmay_calls (dn : Bool) (g : Nat) (v : Value) (l : List ByteArray) (w : World) (hq : w.cell? ⟨g, 1, none⟩ = some (.bool dn)) (h : RowAt w 9 v l.length (l.map Value.string)) (hl : l.length ≤ 1000) (hs : ∀ s ∈ l, s.size ≤ maxLen) :
    Calls Tryz.prog 115 #[.pointer (some ⟨g, 0, none⟩), v] w fun e w' => e = .returned (.int .i64 (mayE dn l)) ∧ w = w' := by
  obtain ⟨p, c, rfl⟩ := h.slice
  have h' := Lib.hid h
  have hs' := Lib.hid hs
  clear h hs
  cases dn
  · go_enter Tryz.func115, Tryz.ntmps115
    go_wp2_with fail
    go_loop [6, 13] (fun _ i => ∃ k : Nat, k ≤ l.length ∧ i = .int .i64 k ∧ (l.take k).all goodN = true) (fun _ i => l.length - (intOf i).toNat)
    case atStart => exact ⟨0, Nat.zero_le _, rfl, rfl⟩
    case round =>
      obtain ⟨k, hk, rfl, hall⟩ := hrel
      have hall' := Lib.hid hall
      clear hall
      by_cases hlt : k < l.length
      · obtain ⟨g1, c1, hv, hc, hg, hcell⟩ := h'.out.cell (by omega)
        obtain ⟨rfl, rfl⟩ : p = some ⟨g1, 0, none⟩ ∧ c = c1 := by simpa using hv
        have hn := List.getElem?_eq_getElem hlt
        have q0 := hcell k (.string l[k]) (by rw [List.getElem?_map, hn]; rfl)
        have hN := risName_calls l[k] w (hs'.out _ (List.getElem_mem hlt))
        have hn' := Lib.hid hn
        generalize l[k] = s at *
        have hN' := Lib.hid hN
        clear hv hn hcell hN h' hq hs'
        cases hg : goodN s
        · have hN2 := hN'.out
          rw [show dName s.data.toList = false from hg] at hN2
          have hN2' := Lib.hid hN2
          have hb := all_badN hn'.out hg
          have hb' := Lib.hid hb
          clear hN2 hN' hg hb
          go_wp2_with fail
          refine hN2'.out.mono ?_
          rintro e w1 ⟨rfl, rfl⟩
          go_wp2
          go_ret
          exact ⟨by unfold mayE; rw [hb'.out]; rfl, rfl⟩
        · have hN2 := hN'.out
          rw [show dName s.data.toList = true from hg] at hN2
          have hN2' := Lib.hid hN2
          have hb := all_goodN hall'.out hn'.out hg
          have hb' := Lib.hid hb
          clear hN2 hN' hg hb
          go_wp2_with fail
          refine hN2'.out.mono ?_
          rintro e w1 ⟨rfl, rfl⟩
          go_wp2
          go_round
          case rel => exact ⟨k + 1, by omega, by go_num, hb'.out⟩
          case measure => simp [intOf]; omega
      · have hb := hall'.out
        rw [List.take_of_length_le (by omega)] at hb
        have hb' := Lib.hid hb
        clear hb
        go_wp2
        go_ret
        exact ⟨by unfold mayE; rw [hb'.out]; rfl, rfl⟩
  · go_enter Tryz.func115, Tryz.ntmps115
    go_wp2
    go_ret
    exact ⟨rfl, rfl⟩
/-- what done leaves -/
def DonePost (w : World) (v : Value) (R : RDir) (e : Ending) (w' : World) : Prop := ∃ v', e = .returned v' ∧ DirAt w' v' R ∧ (∀ g, v'.ownBlock = some g → v.ownBlock = some g ∨ w.heap.size ≤ g) ∧ Below w.heap.size w w'
theorem rset_length (d : RDir) (s : List UInt8) (f : Option Nat) : (rset d s f).length ≤ 2 * d.length + 1 := by
  have h : ∀ (d : RDir) (f : Nat) (dn : Bool), (rput s f dn d).length ≤ 2 * d.length + 1 := by
    intro d f
    induction d with
    | nil => intro dn; unfold rput; split <;> simp
    | cons n d ih =>
      intro dn
      unfold rput
      have := ih (dn || decide (s < n.1))
      rw [List.length_append, List.length_append, List.length_cons]
      split <;> split <;> simp only [List.length_cons, List.length_nil] <;> omega
  cases f <;> exact h d _ _
set_option maxHeartbeats 2000000 in
theorem rdone_calls (v : Value) (d : RDir) (a b : ByteArray) (i : Nat) (w : World) (h : DirAt w v d) (hd : d.length ≤ 40000) :
    Calls Tryz.prog 151 #[v, .agg #[.string a, .string b, .int .i64 i]] w (DonePost w v (rdone d ⟨a.data.toList, b.data.toList, i⟩)) := by
  have ha : a.toList = a.data.toList := Lib.toList_data a
  have hb : b.toList = b.data.toList := Lib.toList_data b
  have B1 := (Below.refl w.heap.size w).alloc (Nat.le_refl _) (.cells #[.string a, .string b, .int .i64 i] 158)
  have h1 := h.later B1
  have qc := (Blk.new w 158 #[.string a, .string b, .int .i64 i]).cell
  have hR : rdone d ⟨a.data.toList, b.data.toList, i⟩ = if b.data.toList = [] then (if a.data.toList = [] then d else rset d a.data.toList none) else rset (if a.data.toList = [] then d else rset d a.data.toList none) b.data.toList (some i) := rfl
  rw [hR]
  clear hR
  have h1' := Lib.hid h1
  clear h h1
  cases ea : a.data.toList.isEmpty
  · have hna : a.data.toList ≠ [] := by intro e; rw [e] at ea; cases ea
    have ta : a.toList.isEmpty = false := by rw [ha]; exact ea
    rw [if_neg hna]
    have hS := rset_calls v d a none (-1) _ h1'.out (by omega) rfl
    have hS' := Lib.hid hS
    clear hS
    have hlen := rset_length d a.data.toList none
    have hlen' := Lib.hid hlen
    clear hlen hna ea ha
    cases eb : b.data.toList.isEmpty
    · have hnb : b.data.toList ≠ [] := by intro e; rw [e] at eb; cases eb
      have tb : b.toList.isEmpty = false := by rw [hb]; exact eb
      rw [if_neg hnb]
      clear hnb eb hb
      go_enter Tryz.func151, Tryz.ntmps151
      go_wp2_with fail
      refine hS'.out.mono ?_
      rintro e w1 ⟨v1, rfl, k1, k2, k3⟩
      have hz := k3.size
      simp only [World.size_alloc] at hz
      have qc1 : ∀ j, w1.cell? ⟨w.heap.size, j, none⟩ = (#[.string a, .string b, .int .i64 i] : Array Value)[j]? := ((Blk.new w 158 #[.string a, .string b, .int .i64 i]).below k3 (by simp)).cell
      have hS2 := rset_calls v1 _ b (some i) i w1 k1 (by have := hlen'.out; omega) rfl
      have hS2' := Lib.hid hS2
      have B2 := B1.trans (k3.mono (by simp))
      clear hS' hS2 k1 k3 qc B1
      go_wp2_with fail
      refine hS2'.out.mono ?_
      rintro e w2 ⟨v2, rfl, m1, m2, m3⟩
      have B3 := B2.trans (m3.mono (by omega))
      clear m3 B2
      go_wp2_with fail
      go_ret
      exact ⟨v2, rfl, m1, fun g hg => .inr (by have := m2 g hg; omega), B3⟩
    · have hnb : b.data.toList = [] := List.isEmpty_iff.1 eb
      have tb : b.toList.isEmpty = true := by rw [hb]; exact eb
      rw [if_pos hnb]
      clear hnb eb hb
      go_enter Tryz.func151, Tryz.ntmps151
      go_wp2_with fail
      refine hS'.out.mono ?_
      rintro e w1 ⟨v1, rfl, k1, k2, k3⟩
      have qc1 : ∀ j, w1.cell? ⟨w.heap.size, j, none⟩ = (#[.string a, .string b, .int .i64 i] : Array Value)[j]? := ((Blk.new w 158 #[.string a, .string b, .int .i64 i]).below k3 (by simp)).cell
      have B2 := B1.trans (k3.mono (by simp))
      clear hS' k3 qc B1
      go_wp2_with fail
      go_ret
      exact ⟨v1, rfl, k1, fun g hg => .inr (by have := k2 g hg; simp at this; omega), B2⟩
  · have hna : a.data.toList = [] := List.isEmpty_iff.1 ea
    have ta : a.toList.isEmpty = true := by rw [ha]; exact ea
    rw [if_pos hna]
    clear hna ea ha
    cases eb : b.data.toList.isEmpty
    · have hnb : b.data.toList ≠ [] := by intro e; rw [e] at eb; cases eb
      have tb : b.toList.isEmpty = false := by rw [hb]; exact eb
      rw [if_neg hnb]
      clear hnb eb hb
      have hS2 := rset_calls v d b (some i) i _ h1'.out (by omega) rfl
      have hS2' := Lib.hid hS2
      clear hS2
      go_enter Tryz.func151, Tryz.ntmps151
      go_wp2_with fail
      refine hS2'.out.mono ?_
      rintro e w2 ⟨v2, rfl, m1, m2, m3⟩
      have B3 := B1.trans (m3.mono (by simp))
      clear m3 B1
      go_wp2_with fail
      go_ret
      exact ⟨v2, rfl, m1, fun g hg => .inr (by have := m2 g hg; simp at this; omega), B3⟩
    · have hnb : b.data.toList = [] := List.isEmpty_iff.1 eb
      have tb : b.toList.isEmpty = true := by rw [hb]; exact eb
      rw [if_pos hnb]
      clear hnb eb hb
      go_enter Tryz.func151, Tryz.ntmps151
      go_wp2_with fail
      go_ret
      exact ⟨v, rfl, h1'.out, fun g hg => .inl hg, B1⟩
end Go.Proofs.YtabcdodjkfknlaaGreatDoor
namespace Go.Proofs.YtabcdodjkfknlaaGreatDoor
open Go.RowKit Go.Maps Go.Shelf
attribute [local go_sem ↓] dapp_op
theorem info_ract : (Tryz.prog.info? 158).map (fun i => (i.zero, i.size, i.bytes)) = some (some (.agg #[.string ⟨#[]⟩, .string ⟨#[]⟩, .int .i64 0]), 3, 40) := by kernel_rfl
theorem racells_app (d e : List RAct) : racells (d ++ e) = racells d ++ racells e := by unfold racells; rw [List.flatMap_append]
section
variable {w w' : World} {B g : Nat} {vF vD vS vA : Value} {dv : List Value} {r : RD}
/-- what is left when an act is put behind the others -/
structure APush (w : World) (B g : Nat) (vF vD vS vA : Value) (dv : List Value) (r : RD) (a : RAct) (o : Nat) (p : Option Addr) (c : Nat) (w' : World) : Prop where
  run : (dappOp #[127, 127] 127 #[vA, .slice (some ⟨o, 0, none⟩) 1 1]).run Tryz.prog w = .ok (.slice p (r.acts.length + 1) c) w'
  blk : Blk w' g 129 #[.int .i64 r.cap, .bool r.down, .int .i64 r.left, vF, vD, vS, vA]
  dat : RDat (w'.setCell ⟨g, 6, none⟩ (.slice p (r.acts.length + 1) c)) B g vF vD vS (.slice p (r.acts.length + 1) c) dv { r with acts := r.acts ++ [a] }
  lies : ∀ j, (Value.slice p (r.acts.length + 1) c).ownBlock = some j → vA.ownBlock = some j ∨ w.heap.size ≤ j
  keeps : Keeps (fun j => vA.ownBlock = some j) w w'
theorem RDat.apush (h : RDat w B g vF vD vS vA dv r) (a : RAct) (hl : r.acts.length ≤ 1000000) {o : Nat} (ho : Blk w o 158 #[strV a.frm, strV a.to, .int .i64 a.file]) : ∃ p c w', APush w B g vF vD vS vA dv r a o p c w' := by
  have hB : B ≤ w.heap.size := by have := (h.lt g (.inl rfl)); omega
  obtain ⟨i0, hi, hz0, hz1, hz2⟩ := info_parts info_ract
  obtain ⟨v', w', h2, h3, h4, _, h5⟩ := run_append_own_at (P := Tryz.prog) w B 127 127 158 i0 (.agg #[.string ⟨#[]⟩, .string ⟨#[]⟩, .int .i64 0]) 3 40 Tryz.underlying127 hi hz0 hz1 hz2 rfl (by decide) vA r.acts.length _ h.rest.acts ⟨o, 0, none⟩ 1 1 [strV a.frm, strV a.to, .int .i64 a.file] rfl (by
      intro j u hj
      rw [addr_at, ho.cell j, ← hj]
      simp) (by
      intro u hu
      simp at hu
      rcases hu with rfl | rfl | rfl <;> rfl) (by unfold maxLen; omega) (by omega) hB
  obtain ⟨p, c, rfl⟩ := own_slice h3
  have hk : Keeps (fun j => vA.ownBlock = some j) w w' := (Keeps.refl _ w).grown h4 (fun k e => .inl e)
  have hg := h.far
  have hb := h.blk.keeps hk hg.2.1
  have hlies : ∀ j, (Value.slice p (r.acts.length + 1) c).ownBlock = some j → vA.ownBlock = some j ∨ w.heap.size ≤ j := by
    intro j hj
    rcases h5 with e | e
    · exact .inl (e.symm.trans hj)
    · rw [hj] at e; exact .inr (by have := Option.some.inj e; omega)
  have hr : RRest w' B vF vD vS (.slice p (r.acts.length + 1) c) dv r.files r.dir r.safe (r.acts ++ [a]) := by
    have hoF := fun j (e : vA.ownBlock = some j) => h.farA e
    refine ⟨own_keeps h.rest.files hk fun j hj e => (hoF j e).2.1 hj, h.rest.len, fun i x hx => ?_, h.rest.dir.keeps hk fun j hj e => (hoF j e).2.2.1 hj, h.rest.safe.keeps hk fun j hj e => (hoF j e).2.2.2.1 hj, ?_⟩
    · obtain ⟨u, h1, h2⟩ := h.rest.data i x hx
      exact ⟨u, h1, RowAt.keeps h2 hk fun j hj e => (hoF j e).2.2.2.2 u (List.mem_of_getElem? h1) hj⟩
    · rw [racells_app, List.length_append]; exact h3
  refine ⟨p, c, w', ⟨h2, hb, ⟨hb.set_ 6 _, hr.keeps (S := fun j => j = g) (kset _ g 6 _) (fun j e => ?_), fun j hj => ?_⟩, hlies, hk⟩⟩
  · obtain rfl := e
    exact hr.far hb (by decide)
  · rcases hj with e | e | e | e | e | e
    · exact h.low j (.inl e)
    · exact h.low j (.inr (.inl e))
    · rcases hlies j e with e | e
      · exact h.low j (.inr (.inr (.inl e)))
      · omega
    · exact h.low j (.inr (.inr (.inr (.inl e))))
    · exact h.low j (.inr (.inr (.inr (.inr (.inl e)))))
    · exact h.low j (.inr (.inr (.inr (.inr (.inr e)))))
/-- another directory -/
theorem RDat.redir (h : RDat w B g vF vD vS vA dv r) {v : Value} {R : RDir} (hd : DirAt w v R) (hv : ∀ j, v.ownBlock = some j → B ≤ j) : RDat (w.setCell ⟨g, 4, none⟩ v) B g vF v vS vA dv { r with dir := R } := by
  have hr := h.rest_set 4 v
  refine ⟨h.blk.set_ 4 _, ⟨hr.files, hr.len, hr.data, hd.keeps (S := fun j => j = g) (kset _ g 4 _) fun j hj e => ?_, hr.safe, hr.acts⟩, fun j hj => ?_⟩
  · obtain rfl := e
    obtain ⟨c, h1⟩ := RowAt.blk hd j hj; exact h1.ne_ h.blk (by decide) rfl
  · rcases hj with e | e | e | e | e | e
    · exact h.low j (.inl e)
    · exact h.low j (.inr (.inl e))
    · exact h.low j (.inr (.inr (.inl e)))
    · exact hv j e
    · exact h.low j (.inr (.inr (.inr (.inr (.inl e)))))
    · exact h.low j (.inr (.inr (.inr (.inr (.inr e)))))
end
/-- what act leaves of a disk -/
def Acted (w : World) (B g : Nat) (vF vD vS vA : Value) (dv : List Value) (r' : RD) (w' : World) : Prop := ∃ vD' vA', RDat w' B g vF vD' vS vA' dv r' ∧ (∀ j, vD'.ownBlock = some j → vD.ownBlock = some j ∨ w.heap.size ≤ j) ∧ (∀ j, vA'.ownBlock = some j → vA.ownBlock = some j ∨ w.heap.size ≤ j) ∧ Keeps (fun j => j = g ∨ vA.ownBlock = some j) w w'
set_option maxHeartbeats 4000000 in
set_option maxRecDepth 100000 in
theorem ract_calls (r : RD) (B g : Nat) (vF vD vS vA : Value) (dv : List Value) (a b : ByteArray) (i : Nat) (w : World) (hd : RDat w B g vF vD vS vA dv r) (hf : -1 ≤ r.left ∧ r.left < 9223372036854775808) (hl1 : r.dir.length ≤ 40000) (hl2 : r.acts.length ≤ 1000000) :
    Calls Tryz.prog 117 #[.pointer (some ⟨g, 0, none⟩), .agg #[.string a, .string b, .int .i64 i]] w fun e w' => e = .returned (.int .i64 (errDown r.burns)) ∧ Acted w B g vF vD vS vA dv (if r.burns then r.act ⟨a.data.toList, b.data.toList, i⟩ else r.burn) w' := by
  have hgl := hd.blk.lt
  have hOl := hd.lt
  have B1 := (Below.refl w.heap.size w).alloc (Nat.le_refl _) (.cells #[.string a, .string b, .int .i64 i] 158)
  have hC := rburn_calls r B g vF vD vS vA dv _ (hd.later B1) hf
  have bx := Blk.new w 158 #[.string a, .string b, .int .i64 i]
  cases hbn : r.burns
  · rw [hbn] at hC
    have hC' := Lib.hid hC
    rw [if_neg (by decide)]
    clear hC
    go_enter Tryz.func117, Tryz.ntmps117
    go_wp2_with fail
    refine hC'.out.mono ?_
    rintro e w2 ⟨rfl, h2, k2⟩
    go_wp2
    go_ret
    exact ⟨rfl, vD, vA, h2, fun j hj => .inl hj, fun j hj => .inl hj, (Keeps.of_below B1).trans (k2.mono fun j _ e => .inl e)⟩
  · rw [hbn] at hC
    have hC' := Lib.hid hC
    rw [if_pos rfl]
    have hact : r.act ⟨a.data.toList, b.data.toList, i⟩ = { r.burn with acts := r.burn.acts ++ [⟨a.data.toList, b.data.toList, i⟩], dir := rdone r.burn.dir ⟨a.data.toList, b.data.toList, i⟩ } := rfl
    rw [hact]
    clear hC hact
    go_enter Tryz.func117, Tryz.ntmps117
    go_wp2_with fail
    refine hC'.out.mono ?_
    rintro e w2 ⟨rfl, h2, k2⟩
    have hK2 : Keeps (fun j => j = g ∨ vA.ownBlock = some j) w w2 := (Keeps.of_below B1).trans (k2.mono fun j _ e => .inl e)
    have hbx := bx.keeps k2 (by omega)
    have z2 := k2.size
    simp only [World.size_alloc] at z2
    have qc := h2.blk.cell
    have qf := h2.blk.frozen
    have bc := hbx.cell
    have eA : r.burn.acts = r.acts := by unfold RD.burn; split <;> (try split) <;> rfl
    have eD : r.burn.dir = r.dir := by unfold RD.burn; split <;> (try split) <;> rfl
    have hD2 := h2.keeps (S := fun _ => False) (((Keeps.refl _ w2).alloc (.cells #[.string a, .string b, .int .i64 i] 158)).drew) (fun _ _ => id)
    have hOne : Blk (w2.alloc (.cells #[.string a, .string b, .int .i64 i] 158)).drew w2.heap.size 158 #[strV (⟨a.data.toList, b.data.toList, i⟩ : RAct).frm, strV (⟨a.data.toList, b.data.toList, i⟩ : RAct).to, .int .i64 i] := by
      show Blk _ _ _ #[strV a.data.toList, strV b.data.toList, .int .i64 i]
      rw [← strV_mk, ← strV_mk]; exact (Blk.new _ _ _).drew
    obtain ⟨p, c, w3, P⟩ := hD2.apush ⟨a.data.toList, b.data.toList, i⟩ (by rw [eA]; exact hl2) hOne
    have e1 := P.run
    have c1 := P.blk.cell
    have f1 := P.blk.frozen
    have l1 := h2.blk.lt
    have l2 := hbx.lt
    have hdir := h2.rest.dir
    have hl1' : r.burn.dir.length ≤ 40000 := by rw [eD]; exact hl1
    clear eA eD
    have hK3 : Keeps (fun j => j = g ∨ vA.ownBlock = some j) w w3 := ((hK2.alloc _).drew).trans (P.keeps.mono fun j _ e => .inr e)
    have hb3 : Blk w3 w.heap.size 158 #[.string a, .string b, .int .i64 i] := ((hbx.alloc _).drew).keeps P.keeps (fun e => by have := (hOl _ (.inr (.inr (.inl e)))).2; omega)
    have hK4 : Keeps (fun j => j = g ∨ vA.ownBlock = some j) w (w3.setCell ⟨g, 6, none⟩ (.slice p (r.burn.acts.length + 1) c)) := hK3.trans ((kset _ g 6 _).mono fun j _ e => .inl e)
    have hb4 : Blk (w3.setCell ⟨g, 6, none⟩ (.slice p (r.burn.acts.length + 1) c)) w.heap.size 158 #[.string a, .string b, .int .i64 i] := hb3.far (by show w.heap.size ≠ g; omega) _
    have hd4 : DirAt (w3.setCell ⟨g, 6, none⟩ (.slice p (r.burn.acts.length + 1) c)) vD r.burn.dir := P.dat.rest.dir
    have P' := Lib.hid P
    have h2' := Lib.hid h2
    clear P hD2 hOne hC' bx hd h2 hK2 hK3 hb3 hdir
    go_wp2_with fail
    go_region
    obtain ⟨W4, eW4⟩ : ∃ W4, w3.setCell ⟨g, 6, none⟩ (.slice p (r.burn.acts.length + 1) c) = W4 := ⟨_, rfl⟩
    have hP4 := P'.out.dat
    have hPl := P'.out.lies
    rw [eW4] at hP4 hK4 hb4 hd4
    rw [eW4]
    have l4 := hb4.lt
    have lg := hP4.blk.lt
    have hDn := rdone_calls vD r.burn.dir a b i W4.drew (hd4.later ((Below.refl _ _).drew)) hl1'
    have hDn' := Lib.hid hDn
    have hP4' := Lib.hid hP4
    have q4 := hP4.blk.cell 4
    have bc4 := hb4.cell
    have k2' := Lib.hid z2
    clear hDn P' e1 c1 f1 eW4 qc qf bc h2' hP4 k2 hbx z2 l1 l2
    go_wp2_with fail
    go_region_with (go_at_call 151; (with_reducible refine hDn'.out.mono ?_); rintro e w5 ⟨v5, rfl, p1, p2, p3⟩; obtain ⟨q5, c5, rfl⟩ := p1.slice; have lg5 := (hP4'.out.blk.drew.below p3 lg).cell 4; have lf5 := (hP4'.out.blk.drew.below p3 lg).frozen 4)
    all_goals
      have hR5 := (hP4'.out.keeps (S := fun _ => False) ((Keeps.refl _ _).drew) (fun _ _ => id)).later p3
      have hK5 := hK4.drew.trans (Keeps.of_below p3)
      have hz5 : w.heap.size ≤ W4.heap.size := hK4.size
      have hR6 := hR5.redir p1 (fun j hj => by
        rcases p2 j hj with e | e
        · exact (hOl j (.inr (.inr (.inr (.inl e))))).1
        · have := hOl g (.inl rfl); simp at e; omega)
      have hK6 := hK5.trans ((kset _ g 4 (.slice q5 (List.length (rdone r.burn.dir ⟨a.data.toList, b.data.toList, i⟩)) c5)).mono fun j _ e => .inl e)
      have hR6' := Lib.hid hR6
      have p2' := Lib.hid p2
      clear hR5 hR6 p2 p1 hDn' hP4'
      go_wp2_with fail
      go_ret
      refine ⟨rfl, _, _, hR6'.out, fun j hj => ?_, fun j hj => ?_, hK6⟩
      · rcases p2'.out j hj with e | e
        · exact .inl e
        · exact .inr (by simp at e; omega)
      · rcases hPl j hj with e | e
        · exact .inl e
        · exact .inr (by simp at e; have := k2'.out; omega)
end Go.Proofs.YtabcdodjkfknlaaGreatDoor
namespace Go.Proofs.YtabcdodjkfknlaaGreatDoor
/-- at most m things were done to it -/
structure RDok (r : RD) (m : Nat) : Prop where
  cap : r.cap ≤ 16777216
  left : -1 ≤ r.left ∧ r.left < 9223372036854775808
  files : r.files.length ≤ m
  dir : r.dir.length ≤ m
  sacts : r.safe.length + r.acts.length ≤ m
  sd : RSorted r.dir
  ss : RSorted r.safe
  nd : ∀ n ∈ r.dir, n.2 < r.files.length
  ns : ∀ n ∈ r.safe, n.2 < r.files.length
  na : ∀ a ∈ r.acts, a.to ≠ [] → a.file < r.files.length
  small : ∀ x ∈ r.files, x.safe ≤ x.data.length ∧ x.data.length ≤ m * 65536
theorem rset_len {d : RDir} (h : RSorted d) (s : List UInt8) (f : Option Nat) : (rset d s f).length ≤ d.length + 1 := by
  have e := congrArg List.length (rsplit h s)
  rw [List.length_append, List.length_append] at e
  cases f with
  | none => show (rput s 0 true d).length ≤ _; rw [rput_true_eq h, List.length_append]; omega
  | some i => show (rput s i false d).length ≤ _; rw [rput_false_eq h, List.length_append, List.length_cons]; omega
theorem rset_len_none {d : RDir} (h : RSorted d) (s : List UInt8) : (rset d s none).length ≤ d.length := by
  have e := congrArg List.length (rsplit h s)
  rw [List.length_append, List.length_append] at e
  show (rput s 0 true d).length ≤ _; rw [rput_true_eq h, List.length_append]; omega
theorem rdone_len {d : RDir} (h : RSorted d) (a : RAct) : (rdone d a).length ≤ d.length + 1 := by
  have e1 := rset_len_none h a.frm
  have e2 := rset_len h a.to (some a.file)
  have e3 := rset_len (rset_sorted h a.frm none) a.to (some a.file)
  unfold rdone
  split <;> split <;> omega
theorem rdone_nums {d : RDir} (h : RSorted d) {a : RAct} {k : Nat} (hd : ∀ n ∈ d, n.2 < k) (ha : a.to ≠ [] → a.file < k) : ∀ n ∈ rdone d a, n.2 < k := by
  have h1 : ∀ n ∈ (if a.frm = [] then d else rset d a.frm none), n.2 < k := by
    intro n hn
    split at hn
    · exact hd n hn
    · rcases rset_mem h hn with h' | ⟨_, h'⟩
      · exact hd n h'
      · cases h'
  have hs : RSorted (if a.frm = [] then d else rset d a.frm none) := by
    split
    · exact h
    · exact rset_sorted h _ _
  intro n hn
  unfold rdone at hn
  split at hn
  · exact h1 n hn
  · rename_i hto
    rcases rset_mem hs hn with h' | ⟨_, h'⟩
    · exact h1 n h'
    · have := Option.some.inj h'; have := ha hto; omega
theorem burn_facts (r : RD) : r.burn.cap = r.cap ∧ r.burn.files = r.files ∧ r.burn.dir = r.dir ∧ r.burn.safe = r.safe ∧ r.burn.acts = r.acts := by
  unfold RD.burn; split <;> (try split) <;> exact ⟨rfl, rfl, rfl, rfl, rfl⟩
section
variable {r : RD} {m : Nat}
theorem RDok.more (h : RDok r m) {m' : Nat} (hm : m ≤ m') : RDok r m' :=
  ⟨h.cap, h.left, Nat.le_trans h.files hm, Nat.le_trans h.dir hm, Nat.le_trans h.sacts hm, h.sd, h.ss, h.nd, h.ns, h.na, fun x hx => ⟨(h.small x hx).1, Nat.le_trans (h.small x hx).2 (Nat.mul_le_mul_right _ hm)⟩⟩
theorem RDok.burn (h : RDok r m) : RDok r.burn m := by
  have hl := h.left
  unfold RD.burn
  split
  · exact ⟨h.cap, h.left, h.files, h.dir, h.sacts, h.sd, h.ss, h.nd, h.ns, h.na, h.small⟩
  · split
    · exact ⟨h.cap, ⟨by show -1 ≤ r.left - 1; omega, by show r.left - 1 < _; omega⟩, h.files, h.dir, h.sacts, h.sd, h.ss, h.nd, h.ns, h.na, h.small⟩
    · exact h
theorem RDok.grow (h : RDok r m) (hr : ∀ n : Nat, n < r.files.length → n < r.files.length + 1) : RDok { r with files := r.files ++ [⟨[], 0⟩] } (m + 1) := by
  refine ⟨h.cap, h.left, by show (r.files ++ [_]).length ≤ _; rw [List.length_append, List.length_singleton]; have := h.files; omega, Nat.le_succ_of_le h.dir, Nat.le_succ_of_le h.sacts, h.sd, h.ss, fun n hn => ?_, fun n hn => ?_, fun a ha hto => ?_, fun x hx => ?_⟩
  · show _ < (r.files ++ [_]).length
    rw [List.length_append, List.length_singleton]; exact hr _ (h.nd n hn)
  · show _ < (r.files ++ [_]).length
    rw [List.length_append, List.length_singleton]; exact hr _ (h.ns n hn)
  · show _ < (r.files ++ [_]).length
    rw [List.length_append, List.length_singleton]; exact hr _ (h.na a ha hto)
  · rcases List.mem_append.1 hx with h' | h'
    · exact ⟨(h.small x h').1, Nat.le_trans (h.small x h').2 (Nat.mul_le_mul_right _ (Nat.le_succ m))⟩
    · obtain rfl := List.mem_singleton.1 h'
      exact ⟨Nat.le_refl _, Nat.zero_le _⟩
/-- one file is turned -/
theorem RDok.turn (h : RDok r m) {m' : Nat} (hm : m ≤ m') (i : Nat) {x : File} (hx : x.safe ≤ x.data.length ∧ x.data.length ≤ m' * 65536) : RDok { r with files := r.files.set i x } m' := by
  have h := h.more hm
  refine ⟨h.cap, h.left, by show (r.files.set i x).length ≤ _; rw [List.length_set]; exact h.files, h.dir, h.sacts, h.sd, h.ss, fun n hn => ?_, fun n hn => ?_, fun a ha hto => ?_, fun y hy => ?_⟩
  · show _ < (r.files.set i x).length
    rw [List.length_set]; exact h.nd n hn
  · show _ < (r.files.set i x).length
    rw [List.length_set]; exact h.ns n hn
  · show _ < (r.files.set i x).length
    rw [List.length_set]; exact h.na a ha hto
  · rcases List.mem_or_eq_of_mem_set hy with h' | rfl
    · exact h.small y h'
    · exact hx
theorem RDok.got (h : RDok r m) (i : Nat) : (r.got i).safe ≤ (r.got i).data.length ∧ (r.got i).data.length ≤ m * 65536 := by
  unfold RD.got
  rw [List.getD_eq_getElem?_getD]
  cases hx : r.files[i]? with
  | none => exact ⟨Nat.le_refl _, Nat.zero_le _⟩
  | some x => exact h.small x (List.mem_of_getElem? hx)
theorem RDok.create (h : RDok r m) (s : List UInt8) : RDok (r.create s) (m + 1) := by
  unfold RD.create
  split
  · split
    · have hg := h.grow (fun n hn => by omega)
      have hb := hg.burn
      have e : ({ r.act ⟨[], s, r.files.length⟩ with files := r.files ++ [⟨[], 0⟩] } : RD) = { ({ r with files := r.files ++ [⟨[], 0⟩] } : RD).act ⟨[], s, r.files.length⟩ with files := r.files ++ [⟨[], 0⟩] } := by
        unfold RD.act RD.burn
        split <;> (try split) <;> rfl
      have hd : r.burn.dir = r.dir ∧ r.burn.acts = r.acts ∧ r.burn.safe = r.safe ∧ r.burn.cap = r.cap := by
        obtain ⟨e1, e2, e3, e4, e5⟩ := burn_facts r; exact ⟨e3, e5, e4, e1⟩
      have hl := h.burn.left
      refine ⟨by show r.burn.cap ≤ _; rw [hd.2.2.2]; exact h.cap, hl, hg.files, ?_, ?_, ?_, ?_, ?_, ?_, ?_, hg.small⟩
      · show (rdone r.burn.dir ⟨[], s, r.files.length⟩).length ≤ _
        rw [hd.1]; have := rdone_len h.sd ⟨[], s, r.files.length⟩; have := h.dir; omega
      · show r.burn.safe.length + (r.burn.acts ++ [(⟨[], s, r.files.length⟩ : RAct)]).length ≤ m + 1
        rw [hd.2.1, hd.2.2.1, List.length_append, List.length_singleton]; have := h.sacts; omega
      · show RSorted (rdone r.burn.dir ⟨[], s, r.files.length⟩)
        rw [hd.1]; exact rdone_sorted h.sd _
      · show RSorted r.burn.safe
        rw [hd.2.2.1]; exact h.ss
      · show ∀ n ∈ rdone r.burn.dir ⟨[], s, r.files.length⟩, n.2 < (r.files ++ [(⟨[], 0⟩ : File)]).length
        rw [hd.1]
        exact rdone_nums h.sd hg.nd (fun _ => by show r.files.length < _; rw [List.length_append, List.length_singleton]; omega)
      · show ∀ n ∈ r.burn.safe, n.2 < (r.files ++ [(⟨[], 0⟩ : File)]).length
        rw [hd.2.2.1]; exact hg.ns
      · show ∀ a ∈ r.burn.acts ++ [(⟨[], s, r.files.length⟩ : RAct)], a.to ≠ [] → a.file < (r.files ++ [(⟨[], 0⟩ : File)]).length
        rw [hd.2.1]
        intro a ha hto
        rcases List.mem_append.1 ha with h' | h'
        · exact hg.na a h' hto
        · obtain rfl := List.mem_singleton.1 h'
          show r.files.length < _
          rw [List.length_append, List.length_singleton]; omega
    · exact h.burn.more (Nat.le_succ m)
  · exact h.more (Nat.le_succ m)
theorem RDok.append (h : RDok r m) (s : List UInt8) {b : List UInt8} (hb : b.length ≤ 65536) : RDok (r.append s b) (m + 1) := by
  unfold RD.append
  have hg := h.got (r.num s)
  split
  · split
    · exact h.more (Nat.le_succ m)
    · split
      · have := h.burn.turn (m' := m + 1) (Nat.le_succ m) (r.num s) (x := ⟨(r.got (r.num s)).data ++ b, (r.got (r.num s)).safe⟩) ⟨by show (r.got (r.num s)).safe ≤ (_ ++ b).length; rw [List.length_append]; omega, by show (_ ++ b).length ≤ _; rw [List.length_append]; omega⟩
        rw [(burn_facts r).2.1] at this
        exact this
      · exact h.burn.more (Nat.le_succ m)
  · exact h.more (Nat.le_succ m)
theorem RDok.find (h : RDok r m) {s : List UInt8} {i : Nat} (hi : rfind r.dir s = some i) : i < r.files.length := h.nd _ (rfind_mem hi)
theorem RDok.new (cap : Int) : RDok (RD.new cap) 0 :=
  ⟨by show (min (max cap 0) 16777216).toNat ≤ _; omega, ⟨by show (-1 : Int) ≤ -1; omega, by show (-1 : Int) < _; omega⟩, Nat.le_refl _, Nat.le_refl _, Nat.le_refl _, List.Pairwise.nil, List.Pairwise.nil, fun n h => (by cases h), fun n h => (by cases h), fun n h => (by cases h), fun n h => (by cases h)⟩
end
end Go.Proofs.YtabcdodjkfknlaaGreatDoor
namespace Go.Proofs.YtabcdodjkfknlaaGreatDoor
open Go.RowKit Go.Maps Go.Shelf
attribute [local go_sem ↓] dapp_op
theorem info_rfile : (Tryz.prog.info? 160).map (fun i => (i.zero, i.size, i.bytes)) = some (some (.agg #[.slice none 0 0, .int .i64 0]), 2, 32) := by kernel_rfl
theorem fcells_app {dv : List Value} {F : List File} (h : dv.length = F.length) (u : Value) (x : File) : fcells (dv ++ [u]) (F ++ [x]) = fcells dv F ++ [u, .int .i64 x.safe] := by
  unfold fcells
  rw [List.zip_append h, List.flatMap_append]; rfl
section
variable {w w' w1 : World} {B g : Nat} {vF vD vS vA : Value} {dv : List Value} {r : RD} {O : Nat → Prop} {m : Nat}
/-- what is left when a file is put behind the others -/
structure FPush (w : World) (B g : Nat) (vF vD vS vA : Value) (dv : List Value) (r : RD) (o : Nat) (p : Option Addr) (c : Nat) (w' : World) : Prop where
  run : (dappOp #[125, 125] 125 #[vF, .slice (some ⟨o, 0, none⟩) 1 1]).run Tryz.prog w = .ok (.slice p (r.files.length + 1) c) w'
  blk : Blk w' g 129 #[.int .i64 r.cap, .bool r.down, .int .i64 r.left, vF, vD, vS, vA]
  dat : RDat (w'.setCell ⟨g, 3, none⟩ (.slice p (r.files.length + 1) c)) B g (.slice p (r.files.length + 1) c) vD vS vA (dv ++ [.slice none 0 0]) { r with files := r.files ++ [⟨[], 0⟩] }
  lies : ∀ j, (Value.slice p (r.files.length + 1) c).ownBlock = some j → vF.ownBlock = some j ∨ w.heap.size ≤ j
  keeps : Keeps (fun j => vF.ownBlock = some j) w w'
theorem RDat.fpush (h : RDat w B g vF vD vS vA dv r) (hl : r.files.length ≤ 1000000) {o : Nat} (ho : Blk w o 160 #[.slice none 0 0, .int .i64 0]) : ∃ p c w', FPush w B g vF vD vS vA dv r o p c w' := by
  have hB : B ≤ w.heap.size := by have := (h.lt g (.inl rfl)); omega
  obtain ⟨i0, hi, hz0, hz1, hz2⟩ := info_parts info_rfile
  obtain ⟨v', w', h2, h3, h4, _, h5⟩ := run_append_own_at (P := Tryz.prog) w B 125 125 160 i0 (.agg #[.slice none 0 0, .int .i64 0]) 2 32 Tryz.underlying125 hi hz0 hz1 hz2 rfl (by decide) vF r.files.length _ h.rest.files ⟨o, 0, none⟩ 1 1 [.slice none 0 0, .int .i64 0] rfl (by
      intro j u hj
      rw [addr_at, ho.cell j, ← hj]
      simp) (by
      intro u hu
      simp at hu
      rcases hu with rfl | rfl <;> rfl) (by unfold maxLen; omega) (by omega) hB
  obtain ⟨p, c, rfl⟩ := own_slice h3
  have hk : Keeps (fun j => vF.ownBlock = some j) w w' := (Keeps.refl _ w).grown h4 (fun k e => .inl e)
  have hg := h.far
  have hb := h.blk.keeps hk hg.1
  have hlies : ∀ j, (Value.slice p (r.files.length + 1) c).ownBlock = some j → vF.ownBlock = some j ∨ w.heap.size ≤ j := by
    intro j hj
    rcases h5 with e | e
    · exact .inl (e.symm.trans hj)
    · rw [hj] at e; exact .inr (by have := Option.some.inj e; omega)
  have hr : RRest w' B (.slice p (r.files.length + 1) c) vD vS vA (dv ++ [.slice none 0 0]) (r.files ++ [⟨[], 0⟩]) r.dir r.safe r.acts := by
    have hoF := fun j (e : vF.ownBlock = some j) => h.farF e
    refine ⟨?_, by rw [List.length_append, List.length_append, h.rest.len]; rfl, fun i x hx => ?_, h.rest.dir.keeps hk fun j hj e => (hoF j e).2.2.1 hj, h.rest.safe.keeps hk fun j hj e => (hoF j e).2.2.2.1 hj, own_keeps h.rest.acts hk fun j hj e => (hoF j e).2.1 hj⟩
    · rw [fcells_app h.rest.len, List.length_append]; exact h3
    · have hlen := h.rest.len
      by_cases hi : i < r.files.length
      · rw [List.getElem?_append_left hi] at hx
        obtain ⟨u, h1, h2⟩ := h.rest.data i x hx
        exact ⟨u, by rw [List.getElem?_append_left (by omega)]; exact h1, RowAt.keeps h2 hk fun j hj e => (hoF j e).2.2.2.2 u (List.mem_of_getElem? h1) hj⟩
      · have he : i = r.files.length := by
          have := (List.getElem?_eq_some_iff.1 hx).1
          rw [List.length_append, List.length_singleton] at this; omega
        subst he
        rw [List.getElem?_append_right (Nat.le_refl _), Nat.sub_self] at hx
        obtain rfl := Option.some.inj hx
        exact ⟨.slice none 0 0, by rw [List.getElem?_append_right (by omega), hlen, Nat.sub_self]; rfl, .inl ⟨rfl, rfl⟩⟩
  refine ⟨p, c, w', ⟨h2, hb, ⟨hb.set_ 3 _, hr.keeps (S := fun j => j = g) (kset _ g 3 _) (fun j e => ?_), fun j hj => ?_⟩, hlies, hk⟩⟩
  · obtain rfl := e
    exact hr.far hb (by decide)
  · rcases hj with e | e | e | e | e | ⟨u, hu, e⟩
    · exact h.low j (.inl e)
    · rcases hlies j e with e | e
      · exact h.low j (.inr (.inl e))
      · omega
    · exact h.low j (.inr (.inr (.inl e)))
    · exact h.low j (.inr (.inr (.inr (.inl e))))
    · exact h.low j (.inr (.inr (.inr (.inr (.inl e)))))
    · rcases List.mem_append.1 hu with hu | hu
      · exact h.low j (.inr (.inr (.inr (.inr (.inr ⟨u, hu, e⟩)))))
      · obtain rfl := List.mem_singleton.1 hu
        cases e
theorem Acted.goes {r' : RD} (hd : Acted w B g vF vD vS vA dv r' w') : RGoes w B g (rdset g vF vD vS vA dv) r' w' := by
  obtain ⟨vD', vA', h1, h2, h3, h4⟩ := hd
  refine ⟨⟨_, ⟨vF, vD', vS, vA', dv, h1, rfl⟩, fun j hj => ?_⟩, h4.mono fun j _ e => ?_⟩
  · rcases hj with e | e | e | e | e | e
    · exact .inl (.inl e)
    · exact .inl (.inr (.inl e))
    · exact (h3 j e).imp (fun e => .inr (.inr (.inl e))) id
    · exact (h2 j e).imp (fun e => .inr (.inr (.inr (.inl e)))) id
    · exact .inl (.inr (.inr (.inr (.inr (.inl e)))))
    · exact .inl (.inr (.inr (.inr (.inr (.inr e)))))
  · rcases e with e | e
    · exact .inl e
    · exact .inr (.inr (.inl e))
theorem rmay_cases (r : RD) (b : Bool) : r.may b = 0 ∨ r.may b = 2 ∨ r.may b = 6 := by
  unfold RD.may; cases r.down <;> cases b <;> simp
theorem rmay_one (h : RDat w B g vF vD vS vA dv r) (s : ByteArray) (hs : s.size ≤ maxLen) :
    Calls Tryz.prog 115 #[.pointer (some ⟨g, 0, none⟩), .slice (some ⟨w.heap.size, 0, none⟩) 1 1] (w.alloc (.cells #[.string s] 9)) fun e w' => e = .returned (.int .i64 (r.may (dName s.data.toList))) ∧ w.alloc (.cells #[.string s] 9) = w' := by
  have hb := h.blk.alloc (.cells #[.string s] 9)
  have hr : RowAt (w.alloc (.cells #[.string s] 9)) 9 (.slice (some ⟨w.heap.size, 0, none⟩) 1 1) [s].length ([s].map Value.string) := .inr ⟨w.heap.size, 1, #[.string s], rfl, Nat.le_refl _, Blk.new _ _ _, fun i u hu => by simpa using hu⟩
  have := rmay_calls r.down g _ [s] _ (hb.cell 1) hr (by simp) (fun t ht => by obtain rfl := List.mem_singleton.1 ht; exact hs)
  have e : mayE r.down [s] = r.may (dName s.data.toList) := by
    unfold mayE RD.may
    rw [List.all_cons, List.all_nil, Bool.and_true]; rfl
  rw [e] at this
  exact this
end
set_option maxHeartbeats 2000000 in
set_option maxRecDepth 100000 in
theorem rcreate_calls (r : RD) (B g m : Nat) (O : Nat → Prop) (s : ByteArray) (w : World) (hd : RDisk w B g O r) (hk : RDok r m) (hm : m ≤ 4000) (hs : s.size ≤ maxLen) :
    Calls Tryz.prog 71 #[.pointer (some ⟨g, 0, none⟩), .string s] w fun e w' => e = .returned (.int .i64 (r.createE s.data.toList)) ∧ RGoes w B g O (r.create s.data.toList) w' := by
  have B1 := (Below.refl w.heap.size w).alloc (Nat.le_refl _) (.cells #[.string s] 9)
  have hS := RGoes.same (hd.later B1) (.of_below B1)
  obtain ⟨vF, vD, vS, vA, dv, h, rfl⟩ := hd
  have hM := rmay_one h s hs
  have hE : r.createE s.data.toList = if r.findE s.data.toList = 0 then 3 else if r.findE s.data.toList = 4 then errDown r.burns else r.findE s.data.toList := rfl
  have hC : r.create s.data.toList = if r.findE s.data.toList = 4 then (if r.burns then { r.act ⟨[], s.data.toList, r.files.length⟩ with files := r.files ++ [⟨[], 0⟩] } else r.burn) else r := rfl
  have hF : r.findE s.data.toList = if r.may (dName s.data.toList) = 0 then (if (rfind r.dir s.data.toList).isSome then 0 else 4) else r.may (dName s.data.toList) := rfl
  have hS' := Lib.hid hS
  clear hS
  rcases rmay_cases r (dName s.data.toList) with hm0 | hm0 | hm0
  · rw [hm0] at hM
    rw [if_pos hm0] at hF
    have h1 := h.later B1
    have hN := rfind_calls vD r.dir s _ h1.rest.dir (by have := hk.dir; omega)
    have qc := h1.blk.cell
    have hM' := Lib.hid hM
    cases hfi : rfind r.dir s.data.toList with
    | some i =>
      rw [hfi] at hN hF
      rw [show (if (some i : Option Nat).isSome = true then (0 : Int) else 4) = 0 from rfl] at hF
      rw [hF, if_pos rfl] at hE
      rw [hF, if_neg (by decide)] at hC
      rw [hE, hC]
      have hN' := Lib.hid hN
      clear hE hC hF hM hN hfi hk h
      go_enter Tryz.func71, Tryz.ntmps71
      go_wp2_with fail
      refine hM'.out.mono ?_
      rintro e w1 ⟨rfl, rfl⟩
      go_wp2_with fail
      refine hN'.out.mono ?_
      rintro e w2 ⟨rfl, b2⟩
      unfold numI
      have hi0 : (0 : Int) ≤ (i : Int) := by omega
      go_wp2
      go_ret
      exact ⟨rfl, hS'.out.later b2⟩
    | none =>
      rw [hfi] at hN hF
      rw [show (if (none : Option Nat).isSome = true then (0 : Int) else 4) = 4 from rfl] at hF
      rw [hF, if_neg (by decide), if_pos rfl] at hE
      rw [hF, if_pos rfl] at hC
      rw [hE]
      have hN' := Lib.hid hN
      have hdl := hk.dir
      have hfl := hk.files
      obtain ⟨pD, cD, rfl⟩ := h1.rest.dir.slice
      obtain ⟨pF, cF, rfl⟩ := own_slice h1.rest.files
      have h' := Lib.hid h
      have hC' := Lib.hid hC
      have hk' := Lib.hid hk
      clear hE hF hM hN hfi hk h hC
      go_enter Tryz.func71, Tryz.ntmps71
      go_wp2_with fail
      refine hM'.out.mono ?_
      rintro e w1 ⟨rfl, rfl⟩
      go_wp2_with fail
      refine hN'.out.mono ?_
      rintro e w2 ⟨rfl, b2⟩
      have B2 := B1.trans (b2.mono (by simp))
      have h2 := h'.out.later B2
      have q2 := h2.blk.cell
      have hA := ract_calls r B g _ _ vS vA dv ⟨#[]⟩ s r.files.length w2 h2 hk'.out.left (by omega) (by have := hk'.out.sacts; omega)
      have hA' := Lib.hid hA
      unfold numI
      clear hA hM' hN' qc h1 h2 b2
      go_wp2_with fail
      refine hA'.out.mono ?_
      rintro e w3 ⟨rfl, a3⟩
      have hC2 := hC'.out
      cases hbn : r.burns
      · rw [hbn] at a3 hC2
        rw [if_neg (by decide)] at a3 hC2
        have hG := RGoes.at B2 a3.goes
        rw [← hC2] at hG
        have hG' := Lib.hid hG
        unfold errDown
        have hb' := Lib.hid hbn
        clear a3 hC2 hG hA' hbn
        go_wp2
        go_ret
        exact ⟨by rw [hb'.out]; rfl, hG'.out⟩
      · rw [hbn] at a3 hC2
        rw [if_pos rfl] at a3 hC2
        obtain ⟨vD3, vA3, d3, l3, m3, k3⟩ := a3
        have q3 := d3.blk.cell
        have f3 := d3.blk.frozen
        have hKd := d3.keeps (S := fun _ => False) ((Keeps.refl _ w3).alloc (.cells #[.slice none 0 0, .int .i64 0] 160)) (fun _ _ => id)
        have hfl3 : (r.act ⟨[], s.data.toList, r.files.length⟩).files.length = r.files.length := congrArg List.length (burn_facts r).2.1
        obtain ⟨p, c, w4, P⟩ := hKd.fpush (by show (r.act _).files.length ≤ _; rw [show (r.act ⟨(⟨#[]⟩ : ByteArray).data.toList, s.data.toList, r.files.length⟩).files.length = r.files.length from hfl3]; omega) (Blk.new w3 160 #[.slice none 0 0, .int .i64 0])
        have hfe : (r.act ⟨(⟨#[]⟩ : ByteArray).data.toList, s.data.toList, r.files.length⟩).files = r.files := (burn_facts r).2.1
        have hP := P.dat
        have hPl := P.lies
        have e1 := P.run
        have c1 := P.blk.cell
        have g1 := P.blk.frozen
        have hfin : ({ (r.act ⟨(⟨#[]⟩ : ByteArray).data.toList, s.data.toList, r.files.length⟩) with files := (r.act ⟨(⟨#[]⟩ : ByteArray).data.toList, s.data.toList, r.files.length⟩).files ++ [⟨[], 0⟩] } : RD) = r.create s.data.toList := by rw [hC2, hfe]
        rw [hfin] at hP
        have z3 := k3.size
        have zB := B2.size
        have hG : RGoes w B g (rdset g (.slice pF r.files.length cF) (.slice pD r.dir.length cD) vS vA dv) (r.create s.data.toList) (w4.setCell ⟨g, 3, none⟩ (.slice p ((r.act ⟨(⟨#[]⟩ : ByteArray).data.toList, s.data.toList, r.files.length⟩).files.length + 1) c)) := by
          refine ⟨⟨_, ⟨_, _, _, _, _, hP, rfl⟩, fun j hj => ?_⟩, ?_⟩
          · rcases hj with e | e | e | e | e | ⟨u, hu, e⟩
            · exact .inl (.inl e)
            · rcases hPl j e with e | e
              · exact .inl (.inr (.inl e))
              · exact .inr (by simp at e; omega)
            · exact (m3 j e).imp (fun e => .inr (.inr (.inl e))) (fun e => by omega)
            · exact (l3 j e).imp (fun e => .inr (.inr (.inr (.inl e)))) (fun e => by omega)
            · exact .inl (.inr (.inr (.inr (.inr (.inl e)))))
            · rcases List.mem_append.1 hu with hu | hu
              · exact .inl (.inr (.inr (.inr (.inr (.inr ⟨u, hu, e⟩)))))
              · obtain rfl := List.mem_singleton.1 hu; cases e
          · refine (Keeps.of_below B2).trans ((k3.mono fun j _ e => ?_).trans (((Keeps.refl _ _).alloc _).trans ((P.keeps.mono fun j _ e => ?_).trans ((kset _ g 3 _).mono fun j _ e => .inl e))))
            · rcases e with e | e
              · exact .inl e
              · exact .inr (.inr (.inl e))
            · exact .inr (.inl e)
        rw [hfl3] at *
        have hG' := Lib.hid hG
        unfold errDown
        have hb' := Lib.hid hbn
        clear hC2 hG hA' hP hPl hfin hfe P hKd d3 k3 hfl3 l3 m3 hbn
        go_wp2
        go_ret
        exact ⟨by rw [hb'.out]; rfl, hG'.out⟩
  all_goals
    rw [hm0] at hM hF
    rw [if_neg (by decide)] at hF
    rw [hF, if_neg (by decide), if_neg (by decide)] at hE
    rw [hF, if_neg (by decide)] at hC
    rw [hE, hC]
    have hM' := Lib.hid hM
    clear hE hC hF hM hk h
    go_enter Tryz.func71, Tryz.ntmps71
    go_wp2_with fail
    refine hM'.out.mono ?_
    rintro e w1 ⟨rfl, rfl⟩
    go_wp2
    go_ret
    exact ⟨rfl, hS'.out⟩
end Go.Proofs.YtabcdodjkfknlaaGreatDoor
namespace Go.Proofs.YtabcdodjkfknlaaGreatDoor
open Go.RowKit Go.Maps Go.Shelf
theorem rnew_at (w : World) (B : Nat) (hB : B ≤ w.heap.size) (cap c : Int) (hc : c = (((min (max cap 0) 16777216).toNat : Nat) : Int)) : RDisk (w.alloc (.cells #[.int .i64 c, .bool false, .int .i64 (-1), .slice none 0 0, .slice none 0 0, .slice none 0 0, .slice none 0 0] 129)) B w.heap.size (fun j => j = w.heap.size) (RD.new cap) := by
  subst hc
  refine ⟨.slice none 0 0, .slice none 0 0, .slice none 0 0, .slice none 0 0, [], ⟨Blk.new _ _ _, ⟨World.ownsRow_nil _ _ _ _, rfl, fun i x hx => (by cases hx), .inl ⟨rfl, rfl⟩, .inl ⟨rfl, rfl⟩, World.ownsRow_nil _ _ _ _⟩, fun j hj => ?_⟩, ?_⟩
  · rcases hj with e | e | e | e | e | ⟨u, hu, e⟩
    · omega
    all_goals first | cases e | cases hu
  · funext j
    refine propext ⟨fun h => .inl h, ?_⟩
    rintro (e | e | e | e | e | ⟨u, hu, e⟩)
    · exact e
    all_goals first | cases e | cases hu
set_option maxHeartbeats 1000000 in
theorem rnew_calls (cap : Int) (w : World) (B : Nat) (hB : B ≤ w.heap.size) :
    Calls Tryz.prog 69 #[.int .i64 cap] w fun e w' => e = .returned (.pointer (some ⟨w.heap.size, 0, none⟩)) ∧ RDisk w' B w.heap.size (fun j => j = w.heap.size) (RD.new cap) ∧ Below w.heap.size w w' := by
  go_enter Tryz.func69, Tryz.ntmps69
  go_wp2
  all_goals
    go_ret
    exact ⟨rfl, rnew_at w B hB cap _ (by omega), (Below.refl w.heap.size w).alloc (Nat.le_refl _) _⟩
section
variable {w w' : World} {B g : Nat} {vF vD vS vA : Value} {dv : List Value} {r : RD}
theorem RDat.goes (h : RDat w' B g vF vD vS vA dv r) (hk : Keeps (fun j => j = g) w w') : RGoes w B g (rdset g vF vD vS vA dv) r w' :=
  .same ⟨_, _, _, _, _, h, rfl⟩ (hk.mono fun _ _ e => .inl e)
end
end Go.Proofs.YtabcdodjkfknlaaGreatDoor
