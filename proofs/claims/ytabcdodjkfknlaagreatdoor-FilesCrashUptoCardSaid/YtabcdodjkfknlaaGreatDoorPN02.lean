/- Walks: the program's disk: may. Walks: the program's disk: find. Walk: the program's disk: what an act does to a directory. The program's disk: one more act is noted. Walk: the program's disk: do. -/
import Derived.Test.YtabcdodjkfknlaaGreatDoorPN01
import Derived.Maps.AppendAt
import Derived.BigQuiet
import Derived.BigRegion
import Derived.Deep.RegionHeld3
import Derived.LaidEqlPtr
import Derived.Lib.Builder
namespace Go.Proofs.YtabcdodjkfknlaaGreatDoor
open Go.RowKit Go.Maps Go.Shelf
abbrev NameS := { s : ByteArray // s.size ≤ maxLen }
instance : Inhabited NameS := ⟨⟨⟨#[]⟩, by decide⟩⟩
def encN (s : NameS) : Value := .string s.1
def badN (s : NameS) : Bool := !dName s.1.data.toList
theorem bad_pred (w : World) : PredAt Tryz.prog 142 #[] encN badN w := fun W x _ => by
  show Calls Tryz.prog 142 #[.string x.1] W _
  have h := disName_calls x.1 W x.2
  have e : badN x = !dName x.1.data.toList := rfl
  rw [e]
  generalize dName x.1.data.toList = b at *
  go_enter Tryz.func142, Tryz.ntmps142
  go_wp2_with fail
  refine h.mono ?_
  rintro e w' ⟨rfl, rfl⟩
  go_wp2
  go_ret
  exact ⟨rfl, 0, rfl⟩
theorem contains_calls (b n : Nat) (zs : List NameS) (w : World) (hz : zs.length = n) (hn : n ≤ 1000) (hc : ∀ j, j < zs.length → w.cell? ⟨b, 0 + j, none⟩ = some (encN zs[j]!)) :
    Calls Tryz.prog 141 #[.slice (some ⟨b, 0, none⟩) n n, .func (.func 142) #[] #[]] w fun e w' => e = .returned (.bool (zs.any badN)) ∧ ∃ q, w' = w.drewN q := by
  have eg : ∀ args w, (callFunc 142 args).run Tryz.prog w = .ok (.enter 142 args) w := enters_of Tryz.func142 (by kernel_rfl) rfl
  have h := AnyE.slices_ContainsFunc Tryz.containsF encN badN 142 #[] eg b 0 n n zs w (bad_pred w) (by omega) (by omega) hc
  rw [List.take_of_length_le (by omega)] at h
  exact h
/-- may a disk be asked of names that may be, or not? -/
def Dk.may (k : Dk) (ok : Bool) : Int := if k.down then 6 else if ok then 0 else 2
set_option maxHeartbeats 1000000 in
theorem dmay_calls (k : Dk) (B D b n : Nat) (O : Nat → Prop) (zs : List NameS) (w : World) (hd : Disk w B D O k) (hz : zs.length = n) (hn : n ≤ 1000) (hc : ∀ j, j < zs.length → w.cell? ⟨b, 0 + j, none⟩ = some (encN zs[j]!)) :
    Calls Tryz.prog 100 #[.pointer (some ⟨D, 0, none⟩), .slice (some ⟨b, 0, none⟩) n n] w fun e w' => e = .returned (.int .i64 (k.may (!zs.any badN))) ∧ ∃ q, w' = w.drewN q := by
  obtain ⟨bd, bs, va, hb⟩ := hd.blk
  have qc := hb.cell
  unfold dcells at qc
  have hC := contains_calls b n zs w hz hn hc
  have hC' := Lib.hid hC
  clear hC hc hb hd
  generalize zs.any badN = X at *
  unfold Dk.may
  cases hdn : k.down
  · go_enter Tryz.func100, Tryz.ntmps100
    go_wp2_with fail
    refine hC'.out.mono ?_
    rintro e w1 ⟨rfl, q, rfl⟩
    cases X
    · go_wp2
      go_ret
      exact ⟨rfl, q, rfl⟩
    · go_wp2
      go_ret
      exact ⟨rfl, q, rfl⟩
  · go_enter Tryz.func100, Tryz.ntmps100
    go_wp2
    go_ret
    exact ⟨rfl, 0, rfl⟩
set_option maxHeartbeats 1000000 in
theorem dmay_none (k : Dk) (B D : Nat) (O : Nat → Prop) (w : World) (hd : Disk w B D O k) :
    Calls Tryz.prog 100 #[.pointer (some ⟨D, 0, none⟩), .slice none 0 0] w fun e w' => e = .returned (.int .i64 (k.may true)) ∧ w' = w := by
  obtain ⟨bd, bs, va, hb⟩ := hd.blk
  have qc := hb.cell
  unfold dcells at qc
  have hC := AnyE.slices_ContainsFunc_empty Tryz.containsF none 0 (.func (.func 142) #[] #[]) w
  change Calls Tryz.prog 141 _ _ _ at hC
  have hC' := Lib.hid hC
  clear hC hb hd
  unfold Dk.may
  cases hdn : k.down
  · go_enter Tryz.func100, Tryz.ntmps100
    go_wp2_with fail
    refine hC'.out.mono ?_
    rintro e w1 ⟨rfl, rfl⟩
    go_wp2
    go_ret
    exact ⟨rfl, rfl⟩
  · go_enter Tryz.func100, Tryz.ntmps100
    go_wp2
    go_ret
    exact ⟨rfl, rfl⟩
theorem dmay_nil (v : Value) (w : World) : Calls Tryz.prog 100 #[.pointer none, v] w fun e w' => e = .returned (.int .i64 6) ∧ w' = w := by
  go_enter Tryz.func100, Tryz.ntmps100
  go_wp2
  go_ret
  exact ⟨rfl, rfl⟩
end Go.Proofs.YtabcdodjkfknlaaGreatDoor
namespace Go.Proofs.YtabcdodjkfknlaaGreatDoor
open Go.RowKit Go.Maps
theorem Disk.keeps {S : Nat → Prop} {w w' : World} {B D : Nat} {O : Nat → Prop} {k : Dk} (h : Disk w B D O k) (hk : Keeps S w w') (hs : ∀ j, O j → ¬ S j) : Disk w' B D O k := by
  obtain ⟨bd, bs, n, va, rows, hd, hn, rfl⟩ := h
  exact ⟨bd, bs, n, va, rows, hd.keeps hk hs, hn, rfl⟩
theorem Disk.later {w w' : World} {B D : Nat} {O : Nat → Prop} {k : Dk} (h : Disk w B D O k) (hb : Below w.heap.size w w') : Disk w' B D O k := h.keeps (S := fun _ => False) (.of_below hb) (fun _ _ => id)
/-- a file: what is told of it, and where it is -/
def Dk.findE (k : Dk) (s : List UInt8) : Int := if k.may (dName s) = 0 then (if (k.dir s).isSome then 0 else 4) else k.may (dName s)
def Dk.findF (k : Dk) (s : List UInt8) : Option Nat := if k.may (dName s) = 0 then k.dir s else none
theorem one_any (s : NameS) : (!([s].any badN)) = dName s.1.data.toList := by simp [badN]
set_option maxHeartbeats 2000000 in
set_option maxRecDepth 100000 in
theorem find_calls (k : Dk) (B D : Nat) (O : Nat → Prop) (s : ByteArray) (w : World) (hd : Disk w B D O k) (hs : s.size ≤ maxLen) :
    Calls Tryz.prog 57 #[.pointer (some ⟨D, 0, none⟩), .string s] w fun e w' => e = .returned (.tuple #[ptrV (k.findF s.data.toList), .int .i64 (k.findE s.data.toList)]) ∧ Below w.heap.size w w' := by
  have B1 := (Below.refl w.heap.size w).alloc (Nat.le_refl _) (.cells #[.string s] 9)
  have hd1 := hd.later B1
  have hM := dmay_calls k B D w.heap.size 1 O [⟨s, hs⟩] _ hd1 rfl (by omega) (fun j hj => by
    have hj0 : j = 0 := by simp at hj; exact hj
    subst hj0
    exact (Blk.new w 9 #[.string s]).cell 0)
  rw [one_any] at hM
  have hE : k.findE s.data.toList = if k.may (dName s.data.toList) = 0 then (if (k.dir s.data.toList).isSome then 0 else 4) else k.may (dName s.data.toList) := rfl
  have hF : k.findF s.data.toList = if k.may (dName s.data.toList) = 0 then k.dir s.data.toList else none := rfl
  have hm1 : k.may (dName s.data.toList) = 0 ∨ k.may (dName s.data.toList) = 2 ∨ k.may (dName s.data.toList) = 6 := by
    unfold Dk.may; cases k.down <;> cases dName s.data.toList <;> simp
  have hM' := Lib.hid hM
  rw [hE, hF]
  clear hM hE hF
  rcases hm1 with hm | hm | hm
  · rw [if_pos hm, if_pos hm]
    cases hdir : k.dir s.data.toList
    · simp only [Option.isSome_none, Bool.false_eq_true, if_false]
      go_enter Tryz.func57, Tryz.ntmps57
      go_wp2_with fail
      refine hM'.out.mono ?_
      rw [hm]
      rintro e w1 ⟨rfl, q, rfl⟩
      obtain ⟨W, eW, hdW, BW⟩ : ∃ W, (w.alloc (.cells #[.string s] 9)).drewN q = W ∧ Disk W B D O k ∧ Below w.heap.size w W := ⟨_, rfl, hd1.later (bdrewN (Below.refl _ _) q), bdrewN B1 q⟩
      rw [eW]
      obtain ⟨bd, bs, n, va, rows, hdat, hn, rfl⟩ := hdW
      obtain ⟨X, h1, h2⟩ := hdat.dir
      have hrun := dir_run h1 h2 hs
      have qc := hdat.blk.cell
      clear eW hd hd1 hM' B1 hdat
      rw [hdir] at hrun
      unfold ptrV at hrun
      go_wp2
      go_ret2
      exact ⟨rfl, BW⟩
    · simp only [Option.isSome_some, if_true]
      go_enter Tryz.func57, Tryz.ntmps57
      go_wp2_with fail
      refine hM'.out.mono ?_
      rw [hm]
      rintro e w1 ⟨rfl, q, rfl⟩
      obtain ⟨W, eW, hdW, BW⟩ : ∃ W, (w.alloc (.cells #[.string s] 9)).drewN q = W ∧ Disk W B D O k ∧ Below w.heap.size w W := ⟨_, rfl, hd1.later (bdrewN (Below.refl _ _) q), bdrewN B1 q⟩
      rw [eW]
      obtain ⟨bd, bs, n, va, rows, hdat, hn, rfl⟩ := hdW
      obtain ⟨X, h1, h2⟩ := hdat.dir
      have hrun := dir_run h1 h2 hs
      have qc := hdat.blk.cell
      clear eW hd hd1 hM' B1 hdat
      rw [hdir] at hrun
      unfold ptrV at hrun
      go_wp2
      go_ret2
      exact ⟨rfl, BW⟩
  all_goals
    rw [if_neg (by omega), if_neg (by omega), hm]
    go_enter Tryz.func57, Tryz.ntmps57
    go_wp2_with fail
    refine hM'.out.mono ?_
    rw [hm]
    rintro e w1 ⟨rfl, q, rfl⟩
    go_wp2
    go_ret2
    exact ⟨rfl, bdrewN B1 q⟩
set_option maxHeartbeats 1000000 in
theorem find_nil (s : ByteArray) (w : World) :
    Calls Tryz.prog 57 #[.pointer none, .string s] w fun e w' => e = .returned (.tuple #[.pointer none, .int .i64 6]) ∧ Below w.heap.size w w' := by
  go_enter Tryz.func57, Tryz.ntmps57
  go_wp2_with fail
  refine (dmay_nil _ _).mono ?_
  rintro e w1 ⟨rfl, rfl⟩
  go_wp2
  go_ret2
  exact ⟨rfl, (Below.refl w.heap.size w).alloc (Nat.le_refl _) _⟩
end Go.Proofs.YtabcdodjkfknlaaGreatDoor
namespace Go.Proofs.YtabcdodjkfknlaaGreatDoor
open Go.RowKit Go.Maps
def drop (f : List UInt8 → Option Nat) (s : List UInt8) : List UInt8 → Option Nat := fun s' => if s' = s then none else f s'
def lay (f : List UInt8 → Option Nat) (s : List UInt8) (p : Nat) : List UInt8 → Option Nat := fun s' => if s' = s then some p else f s'
/-- an act without a name to lay -/
def DAct.does (a : DAct) (f : List UInt8 → Option Nat) : List UInt8 → Option Nat :=
  match a.file with
  | none => if a.frm.toList.isEmpty then f else drop f a.frm.data.toList
  | some p => lay (if a.frm.toList.isEmpty then f else drop f a.frm.data.toList) a.to.data.toList p
structure DAct.ok (a : DAct) : Prop where
  frm : a.frm.size ≤ maxLen
  to : a.to.size ≤ maxLen
  file : a.file.isSome = !a.to.toList.isEmpty
def DAct.v (a : DAct) : Value := .agg #[.string a.frm, .string a.to, ptrV a.file]
theorem does_at {w : World} {b n : Nat} {X : DataW Unit} {f : List UInt8 → Option Nat} (h1 : w.ownsMap Tryz.prog 9 ptrR b n X) (h2 : dirIs X f) (o : Obj) : (w.alloc o).ownsMap Tryz.prog 9 ptrR b n X ∧ dirIs X f := ⟨h1.alloc o, h2⟩
set_option maxHeartbeats 2000000 in
set_option maxRecDepth 100000 in
theorem does_calls (a : DAct) (b n : Nat) (X : DataW Unit) (f : List UInt8 → Option Nat) (w : World) (ha : a.ok) (h1 : w.ownsMap Tryz.prog 9 ptrR b n X) (h2 : dirIs X f) (hn : n < maxLen) :
    Calls Tryz.prog 67 #[a.v, .map (some b)] w fun e w' => e = .returned (.tuple #[]) ∧ (∃ X', w'.ownsMap Tryz.prog 9 ptrR b (n + 1) X' ∧ dirIs X' (a.does f)) ∧ Keeps (fun k => k = b) w w' := by
  obtain ⟨frm, to, file⟩ := a
  obtain ⟨k1, k2, k3⟩ := ha
  simp only at k1 k2 k3
  have hbl := h1.lt
  have hm1 := h1.alloc (.cells #[.string frm, .string to, ptrV file] 116)
  have bx := Blk.new w 116 #[.string frm, .string to, ptrV file]
  have hk : Keeps (fun k => k = b) w (w.alloc (.cells #[.string frm, .string to, ptrV file] 116)) := (Keeps.refl _ w).alloc _
  cases hf : frm.toList.isEmpty
  · obtain ⟨w2, hr2, ⟨X2, m2, d2⟩, k2'⟩ := dir_del hm1 h2 k1 0
    have bx2 := bx.keeps k2' (by omega)
    have bc := bx2.cell
    have hk2 := hk.trans k2'
    cases ht : to.toList.isEmpty
    · rw [ht] at k3
      cases file with
      | none => simp at k3
      | some p =>
        have he : DAct.does ⟨frm, to, some p⟩ f = lay (drop f frm.data.toList) to.data.toList p := by unfold DAct.does; simp only [hf]; rfl
        obtain ⟨w3, hr3, m3, k3'⟩ := dir_put m2 d2 hn k2 p
        have hk3 := hk2.trans k3'
        rw [he]
        unfold DAct.v ptrV
        unfold ptrV at bc hr2
        clear he
        go_enter Tryz.func67, Tryz.ntmps67
        go_wp2
        go_end0
        exact ⟨rfl, m3, hk3⟩
    · rw [ht] at k3
      cases file with
      | some p => simp at k3
      | none =>
        have he : DAct.does ⟨frm, to, none⟩ f = drop f frm.data.toList := by unfold DAct.does; simp only [hf]; rfl
        rw [he]
        unfold DAct.v ptrV
        unfold ptrV at bc hr2
        clear he
        go_enter Tryz.func67, Tryz.ntmps67
        go_wp2
        go_end0
        exact ⟨rfl, ⟨X2, m2.mono (by omega), d2⟩, hk2⟩
  · have bc := bx.cell
    cases ht : to.toList.isEmpty
    · rw [ht] at k3
      cases file with
      | none => simp at k3
      | some p =>
        have he : DAct.does ⟨frm, to, some p⟩ f = lay f to.data.toList p := by unfold DAct.does; simp only [hf]; rfl
        obtain ⟨w3, hr3, m3, k3'⟩ := dir_put hm1 h2 hn k2 p
        have hk3 := hk.trans k3'
        rw [he]
        unfold DAct.v ptrV
        unfold ptrV at bc hr3
        clear he bc
        go_enter Tryz.func67, Tryz.ntmps67
        go_wp2
        go_end0
        exact ⟨rfl, m3, hk3⟩
    · rw [ht] at k3
      cases file with
      | some p => simp at k3
      | none =>
        have he : DAct.does ⟨frm, to, none⟩ f = f := by unfold DAct.does; simp only [hf]; rfl
        rw [he]
        unfold DAct.v ptrV
        unfold ptrV at hm1 hk
        clear he bc
        go_enter Tryz.func67, Tryz.ntmps67
        go_wp2
        go_end0
        exact ⟨rfl, ⟨X, hm1.mono (by omega), h2⟩, hk⟩
end Go.Proofs.YtabcdodjkfknlaaGreatDoor
namespace Go.Proofs.YtabcdodjkfknlaaGreatDoor
open Go.RowKit Go.Maps
theorem info_act : (Tryz.prog.info? 116).map (fun i => (i.zero, i.size, i.bytes)) = some (some (.agg #[.string ⟨#[]⟩, .string ⟨#[]⟩, .pointer none]), 3, 40) := by kernel_rfl
theorem acells_snoc (l : List DAct) (a : DAct) : acells (l ++ [a]) = acells l ++ [.string a.frm, .string a.to, ptrV a.file] := by
  unfold acells
  rw [List.flatMap_append]
  simp
theorem ptrV_one (p : Option Nat) : (ptrV p).oneCell' = true := by cases p <;> rfl
/-- the blocks of a disk but its acts' row, held against that row -/
theorem Dat.row_ne {w : World} {B D bd bs n : Nat} {va : Value} {rows : Nat → Value} {k : Dk} (h : Dat w B D bd bs n va rows k) : va.ownBlock ≠ some D ∧ va.ownBlock ≠ some bd ∧ va.ownBlock ≠ some bs ∧ ∀ f x, k.file f = some x → va.ownBlock ≠ some f ∧ ∀ b, (rows f).ownBlock = some b → va.ownBlock ≠ some b := by
  obtain ⟨X, h1, _⟩ := h.dir
  obtain ⟨Y, h3, _⟩ := h.safe
  have hm : ∀ {b n : Nat} {X : DataW Unit}, w.ownsMap Tryz.prog 9 ptrR b n X → va.ownBlock ≠ some b := by
    intro b n X hX e
    obtain ⟨_, ⟨rfl, _⟩ | ⟨g, cap, cur, rfl, _, hg, _⟩⟩ := h.acts
    · cases e
    · obtain ⟨es, clock, hb, _⟩ := hX
      obtain rfl : g = b := by simpa [Value.ownBlock] using e
      rw [hg] at hb
      cases hb
  refine ⟨own_blk_ne h.acts h.blk (by decide), hm h1, hm h3, fun f x hf => ?_⟩
  obtain ⟨_, f2, f3, _⟩ := h.file f x hf
  refine ⟨own_blk_ne h.acts f2 (by decide), fun b hb e => ?_⟩
  obtain ⟨_, ⟨h4, _⟩ | ⟨g, cap, cur, h4, _, hg, _⟩⟩ := h.acts
  · rw [h4] at e; cases e
  · obtain ⟨_, ⟨h5, _⟩ | ⟨g', cap', cur', h5, _, hg', _⟩⟩ := f3
    · rw [h5] at hb; cases hb
    · rw [h4] at e
      rw [h5] at hb
      obtain rfl : g = b := by simpa [Value.ownBlock] using e
      obtain rfl : g' = g := by simpa [Value.ownBlock] using hb
      rw [hg] at hg'
      cases hg'
/-- what is left behind the note -/
structure Push (w : World) (B D bd bs n : Nat) (va : Value) (rows : Nat → Value) (k k' : Dk) (o : Nat) (v' : Value) (w' : World) : Prop where
  run : (Builtin.append_ #[80, 80] 80 #[va, .slice (some ⟨o, 0, none⟩) 1 1]).run Tryz.prog w = .ok v' w'
  cell : ∀ i, w'.cell? ⟨D, i, none⟩ = (dcells k bd bs va)[i]?
  frozen : ∀ i, w'.frozen? ⟨D, i, none⟩ = false
  shape : ∃ p m c, v' = .slice p m c
  dat : Dat (w'.setCell ⟨D, 5, none⟩ v') B D bd bs n v' rows k'
  keeps : Keeps (fun j => va.ownBlock = some j ∨ j = D) w (w'.setCell ⟨D, 5, none⟩ v')
  lies : v'.ownBlock = va.ownBlock ∨ v'.ownBlock = some w.heap.size
theorem Dat.push {w : World} {B D bd bs n : Nat} {va : Value} {rows : Nat → Value} {k : Dk} (h : Dat w B D bd bs n va rows k) (a : DAct) {o : Nat} (ho : Blk w o 116 #[.string a.frm, .string a.to, ptrV a.file]) (hl : k.acts.length ≤ 1000000) (hB : B ≤ w.heap.size) :
    ∃ v' w', Push w B D bd bs n va rows k { k with acts := k.acts ++ [a], room := k.room + 1 } o v' w' := by
  obtain ⟨i0, hi, hz0, hz1, hz2⟩ := info_parts info_act
  obtain ⟨v', w', h2, h3, h4, _, h5⟩ := run_append_own_at (P := Tryz.prog) w B 80 80 116 i0 (.agg #[.string ⟨#[]⟩, .string ⟨#[]⟩, .pointer none]) 3 40 Tryz.underlying80 hi hz0 hz1 hz2 rfl (by decide) va k.acts.length _ h.acts ⟨o, 0, none⟩ 1 1 [.string a.frm, .string a.to, ptrV a.file] rfl (by
      intro j u hj
      have e : (⟨o, 0, none⟩ : Addr).add j = ⟨o, j, none⟩ := by
        unfold Addr.add
        split
        · rename_i h0; subst h0; rfl
        · simp
      rw [e, ho.cell j, ← hj]
      simp) (by
      intro u hu
      simp at hu
      rcases hu with rfl | rfl | rfl
      · rfl
      · rfl
      · exact ptrV_one _) (by unfold maxLen; omega) (by omega) hB
  obtain ⟨r1, r2, r3, r4⟩ := h.row_ne
  have hk : Keeps (fun j => va.ownBlock = some j) w w' := (Keeps.refl _ w).grown h4 (fun j e => .inl (by rw [e]))
  have hD := h.blk.keeps hk r1
  have hne : v'.ownBlock ≠ some D := own_blk_ne h3 hD (by decide)
  have hs : Keeps (fun j => j = D) w' (w'.setCell ⟨D, 5, none⟩ v') := Keeps.setCell (S := fun j => j = D) (Keeps.refl _ w') (p := ⟨D, 5, none⟩) (.inl rfl) _
  obtain ⟨X, m1, d1⟩ := h.dir
  obtain ⟨Y, m2, d2⟩ := h.safe
  have m1' := map_keeps m1 hk r2
  have m2' := map_keeps m2 hk r3
  refine ⟨v', w', h2, hD.cell, hD.frozen, ?_, ⟨hD.set_ 5 _, ⟨X, map_keeps m1' hs (map_ne m1' hD), d1⟩, ⟨Y, map_keeps m2' hs (map_ne m2' hD), d2⟩, h.two, ?_, fun f x hf => ?_, h.apart, h.base⟩, ?_, h5⟩
  · obtain ⟨_, ⟨rfl, _⟩ | ⟨g, cap, cur, rfl, _⟩⟩ := h3
    · exact ⟨_, _, _, rfl⟩
    · exact ⟨_, _, _, rfl⟩
  · have h6 := own_keeps h3 hs (fun g hg e => hne (by rw [hg, e]))
    show World.ownsRow _ _ _ _ _ (k.acts ++ [a]).length (acells (k.acts ++ [a]))
    rw [List.length_append, acells_snoc]
    exact h6
  · obtain ⟨f1, f2, f3, f4⟩ := h.file f x hf
    obtain ⟨r5, r6⟩ := r4 f x hf
    have f2' := f2.keeps hk r5
    have f3' := own_keeps f3 hk r6
    exact ⟨f1, f2'.keeps hs (fun e => f2'.ne_ hD (by decide) e), own_keeps f3' hs (fun g hg e => own_blk_ne f3' hD (by decide) (by rw [hg, e])), f4⟩
  · exact (hk.mono (fun _ _ e => .inl e)).setCell (p := ⟨D, 5, none⟩) (.inl (.inr rfl)) _
end Go.Proofs.YtabcdodjkfknlaaGreatDoor
namespace Go.Proofs.YtabcdodjkfknlaaGreatDoor
open Go.RowKit Go.Maps
attribute [local go_sem ↓] dapp_op
def Dk.size (k : Dk) (f : Nat) : Nat := ((k.file f).map fun x => x.data.length).getD 0
def Dk.usedBy (k : Dk) (a : DAct) : Int := match k.dir a.to.data.toList with
  | none => k.used
  | some f => if a.file = some f then k.used else k.used - k.size f
def Dk.noted (k : Dk) (a : DAct) : Dk := { k with acts := k.acts ++ [a], dir := a.does k.dir, room := k.room + 1 }
def Dk.spent (k : Dk) (a : DAct) : Dk := { k.burn with used := k.burn.usedBy a }
def Dk.did (k : Dk) (a : DAct) : Dk := (k.spent a).noted a
/-- what is so of every disk -/
structure Dk.ok (k : Dk) : Prop where
  cap : k.cap ≤ 16777216
  fuse : -1 ≤ k.fuse ∧ k.fuse < 9223372036854775808
  used : -(k.room * 1073741824 : Int) ≤ k.used ∧ k.used ≤ k.room * 1073741824
  live : ∀ s f, k.dir s = some f → (k.file f).isSome = true
  slive : ∀ s f, k.safe s = some f → (k.file f).isSome = true
  acts : ∀ a, a ∈ k.acts → a.ok ∧ ∀ p, a.file = some p → (k.file p).isSome = true
  small : ∀ f x, k.file f = some x → x.data.length ≤ k.room * 65536
theorem burn_same (k : Dk) : k.burn.dir = k.dir ∧ k.burn.safe = k.safe ∧ k.burn.acts = k.acts ∧ k.burn.file = k.file ∧ k.burn.room = k.room ∧ k.burn.used = k.used ∧ k.burn.cap = k.cap ∧ k.burn.slots = k.slots := by
  unfold Dk.burn
  split
  · exact ⟨rfl, rfl, rfl, rfl, rfl, rfl, rfl, rfl⟩
  · split <;> exact ⟨rfl, rfl, rfl, rfl, rfl, rfl, rfl, rfl⟩
theorem info_file : (Tryz.prog.info? 101).map (fun i => (i.zero, i.size, i.bytes)) = some (some (.agg #[.slice none 0 0, .int .i64 0]), 2, 32) := by kernel_rfl
theorem file_same (a : Addr) (w : World) : (binOp .neq 97 (.pointer (some a)) (.pointer (some a))).run Tryz.prog w = .ok (.bool false) w := by
  obtain ⟨i0, hi, _, _, _⟩ := info_parts info_file
  exact Lib.run_neq_ptr_same w a Tryz.underlying97 hi
theorem file_other {w : World} {f p : Nat} {cs cs' : Array Value} {T T' : TypeId} (hne : f ≠ p) (h1 : Blk w f T cs) (h2 : Blk w p T' cs') : (binOp .neq 97 (.pointer (some ⟨f, 0, none⟩)) (.pointer (some ⟨p, 0, none⟩))).run Tryz.prog w = .ok (.bool true) w := by
  obtain ⟨i0, hi, _, hz, _⟩ := info_parts info_file
  have hsz : i0.size ≠ 0 := by omega
  have hab : (⟨f, 0, none⟩ : Addr) ≠ ⟨p, 0, none⟩ := fun e => hne (congrArg Addr.block e)
  have h : ∀ d : Nat, (Op.equalIn (d + 1) 97 (.pointer (some ⟨f, 0, none⟩)) (.pointer (some ⟨p, 0, none⟩))).run Tryz.prog w = .ok false w := fun d => by
    simp [Op.equalIn, run_underlying Tryz.underlying97, sizeOf, typeInfo, hi, hsz, run_sameAddr_other w hab h1 h2]
  simp only [binOp]
  simp [Op.equal, Op.maxDepth, h 9999]
theorem file_nil {w : World} {f : Nat} : (binOp .neq 97 (.pointer (some ⟨f, 0, none⟩)) (.pointer none)).run Tryz.prog w = .ok (.bool true) w := by
  obtain ⟨i0, hi, _, hz, _⟩ := info_parts info_file
  have h : ∀ d : Nat, (Op.equalIn (d + 1) 97 (.pointer (some ⟨f, 0, none⟩)) (.pointer none)).run Tryz.prog w = .ok false w := fun d => by
    simp [Op.equalIn, run_underlying Tryz.underlying97]
  simp only [binOp]
  simp [Op.equal, Op.maxDepth, h 9999]
/-- only the struct is turned -/
theorem Dat.field {w w' : World} {B D bd bs n : Nat} {va : Value} {rows : Nat → Value} {k k' : Dk} (hd : Dat w B D bd bs n va rows k) (hk : Keeps (fun j => j = D) w w') (hb : Blk w' D 82 (dcells k' bd bs va)) (hs : k'.dir = k.dir ∧ k'.safe = k.safe ∧ k'.acts = k.acts ∧ k'.file = k.file ∧ k'.slots = k.slots) :
    Dat w' B D bd bs n va rows k' := by
  obtain ⟨s1, s2, s3, s4, s5⟩ := hs
  obtain ⟨X, h1, h2⟩ := hd.dir
  obtain ⟨Y, h3, h4⟩ := hd.safe
  refine ⟨hb, ⟨X, map_keeps h1 hk (map_ne h1 hd.blk), by rw [s1]; exact h2⟩, ⟨Y, by rw [s5]; exact map_keeps h3 hk (map_ne h3 hd.blk), by rw [s2]; exact h4⟩, hd.two, by rw [s3]; exact own_keeps hd.acts hk (fun g hg e => own_blk_ne hd.acts hd.blk (by decide) (by rw [hg, e])), ?_, by rw [s4]; exact hd.apart, hd.base⟩
  rw [s4]
  intro f x hf
  obtain ⟨f1, f2, f3, f4⟩ := hd.file f x hf
  exact ⟨f1, f2.keeps hk (fun e => f2.ne_ hd.blk (by decide) e), own_keeps f3 hk (fun g hg e => own_blk_ne f3 hd.blk (by decide) (by rw [hg, e])), f4⟩
theorem own_map_ne {w : World} {B k m b n : Nat} {e : TypeId} {v : Value} {xs : List Value} {X : DataW Unit} (h : w.ownsRow B e k v m xs) (hX : w.ownsMap Tryz.prog 9 ptrR b n X) : v.ownBlock ≠ some b := by
  intro e
  obtain ⟨_, ⟨rfl, _⟩ | ⟨g, cap, cur, rfl, _, hg, _⟩⟩ := h
  · cases e
  · obtain ⟨es, clock, hb, _⟩ := hX
    obtain rfl : g = b := by simpa [Value.ownBlock] using e
    rw [hg] at hb
    cases hb
/-- only the directory is turned -/
theorem Dat.turn {w w' : World} {B D bd bs n : Nat} {va : Value} {rows : Nat → Value} {k : Dk} (hd : Dat w B D bd bs n va rows k) {X' : DataW Unit} {g : List UInt8 → Option Nat} (hm : w'.ownsMap Tryz.prog 9 ptrR bd (n + 1) X') (hX : dirIs X' g) (hk : Keeps (fun j => j = bd) w w') :
    Dat w' B D bd bs (n + 1) va rows { k with dir := g } := by
  obtain ⟨X, h1, h2⟩ := hd.dir
  obtain ⟨Y, h3, h4⟩ := hd.safe
  refine ⟨hd.blk.keeps hk (fun e => map_ne h1 hd.blk e.symm), ⟨X', hm, hX⟩, ⟨Y, map_keeps h3 hk (fun e => hd.two e.symm), h4⟩, hd.two, own_keeps hd.acts hk (fun g hg e => own_map_ne hd.acts h1 (by rw [hg, e])), fun f x hf => ?_, hd.apart, hd.base⟩
  obtain ⟨f1, f2, f3, f4⟩ := hd.file f x hf
  exact ⟨f1, f2.keeps hk (fun e => map_ne h1 f2 e.symm), own_keeps f3 hk (fun g hg e => own_map_ne f3 h1 (by rw [hg, e])), f4⟩
theorem do_end {w W3 w' W5 : World} {B D bd bs n o : Nat} {va v' : Value} {rows : Nat → Value} {k : Dk} {a : DAct} {X' : DataW Unit} (hl : w.heap.size ≤ W3.heap.size)
    (hk : Keeps (dset D bd bs va rows k) w W3) (hP : Push W3 B D bd bs n va rows k { k with acts := k.acts ++ [a], room := k.room + 1 } o v' w') (hn : n ≤ k.room ∧ k.slots + k.acts.length ≤ k.room)
    (hm : W5.ownsMap Tryz.prog 9 ptrR bd (n + 1) X') (hX : dirIs X' (a.does k.dir)) (hK : Keeps (fun j => j = bd) (w'.setCell ⟨D, 5, none⟩ v') W5) :
    (∃ O', Disk W5 B D O' (k.noted a) ∧ ∀ j, O' j → dset D bd bs va rows k j ∨ w.heap.size ≤ j) ∧ Keeps (dset D bd bs va rows k) w W5 := by
  have hd := hP.dat.turn hm hX hK
  refine ⟨⟨_, ⟨bd, bs, n + 1, v', rows, ⟨hd.blk, hd.dir, hd.safe, hd.two, hd.acts, hd.file, hd.apart, hd.base⟩, ⟨by show n + 1 ≤ k.room + 1; omega, by show k.slots + (k.acts ++ [a]).length ≤ k.room + 1; simp; omega⟩, rfl⟩, ?_⟩, (hk.trans (hP.keeps.mono ?_)).trans (hK.mono ?_)⟩
  · rintro j (h | h | h | h | h)
    · exact .inl (.inl h)
    · exact .inl (.inr (.inl h))
    · exact .inl (.inr (.inr (.inl h)))
    · rcases hP.lies with e | e
      · exact .inl (.inr (.inr (.inr (.inl (by rw [← e]; exact h)))))
      · rw [e] at h
        obtain rfl := Option.some.inj h
        exact .inr hl
    · exact .inl (.inr (.inr (.inr (.inr h))))
  · rintro j _ (e | e)
    · exact .inr (.inr (.inr (.inl e)))
    · exact .inl e
  · rintro j _ e
    exact .inr (.inl e)
set_option maxHeartbeats 4000000 in
set_option maxRecDepth 100000 in
theorem do_calls (k : Dk) (B D : Nat) (O : Nat → Prop) (a : DAct) (w : World) (hd : Disk w B D O k) (hk : k.ok) (ha : a.ok) (hlive : ∀ p, a.file = some p → (k.file p).isSome = true) (hr : k.room < 4000) (hB : B ≤ w.heap.size) :
    Calls Tryz.prog 92 #[.pointer (some ⟨D, 0, none⟩), a.v] w fun e w' => e = .returned (.int .i64 (errDown k.burns)) ∧ (∃ O', Disk w' B D O' (if k.burns then k.did a else k.burn) ∧ ∀ j, O' j → O j ∨ w.heap.size ≤ j) ∧ Keeps O w w' := by
  have hOl := hd.lt
  have B1 := (Below.refl w.heap.size w).alloc (Nat.le_refl _) (.cells #[.string a.frm, .string a.to, ptrV a.file] 116)
  have hd1 := hd.later B1
  have hC := burn_calls k B D O _ hd1 hk.fuse
  have hC' := Lib.hid hC
  have bx := Blk.new w 116 #[.string a.frm, .string a.to, ptrV a.file]
  clear hC
  have hpv : ∃ q, ptrV a.file = .pointer q := by cases a.file <;> exact ⟨_, rfl⟩
  obtain ⟨q, hq⟩ := hpv
  unfold DAct.v
  rw [hq] at hC' bx B1 ⊢
  cases hbn : k.burns
  · rw [hbn] at hC'
    go_enter Tryz.func92, Tryz.ntmps92
    go_wp2_with fail
    refine hC'.out.mono ?_
    rintro e w2 ⟨rfl, h2, k2⟩
    unfold errDown
    go_wp2
    go_ret
    exact ⟨rfl, ⟨O, h2, fun j hj => .inl hj⟩, (Keeps.of_below B1).trans k2⟩
  · rw [hbn] at hC'
    go_enter Tryz.func92, Tryz.ntmps92
    go_wp2_with fail
    refine hC'.out.mono ?_
    rintro e w2 ⟨rfl, h2, k2⟩
    have hbx := bx.keeps k2 (fun e => by have := hOl _ e; omega)
    obtain ⟨bd, bs, n, va, rows, hdat, hn, rfl⟩ := h2
    obtain ⟨X, h3, h4⟩ := hdat.dir
    have hrun : ∀ nq, (Instr.lookup 79 (.map (some bd)) (.string a.to) false).run Tryz.prog (w2.drewN nq) = .ok (ptrV (k.burn.dir a.to.data.toList)) (w2.drewN nq) := fun nq => dir_run (map_keeps (S := fun _ => False) h3 ((Keeps.refl _ _).drewN nq) id) h4 ha.to
    have qc := hdat.blk.cell
    have qf := hdat.blk.frozen
    have bc := hbx.cell
    obtain ⟨s1, s2, s3, s4, s5, s6, s7, s8⟩ := burn_same k
    have hacts : k.burn.acts.length ≤ 100000 := by have := hn.2; rw [s5] at this; omega
    have hus : -1000000000000000000 ≤ k.used ∧ k.used ≤ 1000000000000000000 := by have := hk.used; omega
    unfold errDown
    clear hC' bx hd1 hd
    have hx : ∀ (nq : Nat) (x : Int), x = k.burn.usedBy a → Dat ((w2.drewN nq).setCell ⟨D, 6, none⟩ (.int .i64 x)) B D bd bs n va rows (k.spent a) := fun nq x hx => by
      subst hx
      have h0 := hdat.keeps (S := fun _ => False) ((Keeps.refl _ _).drewN nq) (fun _ _ => id)
      exact h0.field (Keeps.setCell (S := fun j => j = D) (Keeps.refl _ _) (p := ⟨D, 6, none⟩) (.inl rfl) _) (h0.blk.set_ 6 _) ⟨rfl, rfl, rfl, rfl, rfl⟩
    have hy : ∀ nq : Nat, k.burn.usedBy a = k.burn.used → Dat (w2.drewN nq) B D bd bs n va rows (k.spent a) := fun nq hu => by
      have e : k.spent a = k.burn := by unfold Dk.spent; rw [hu]
      rw [e]
      exact hdat.keeps (S := fun _ => False) ((Keeps.refl _ _).drewN nq) (fun _ _ => id)
    cases hdir : k.burn.dir a.to.data.toList with
    | none =>
      have hu : k.burn.usedBy a = k.burn.used := by unfold Dk.usedBy; rw [hdir]
      rw [hdir] at hrun
      unfold ptrV at hrun
      go_wp2_with fail
      go_quiet (fail)
      rename_i nq
      go_wp2_with fail
      obtain ⟨W3, eW, hD3, hbx3, hk3⟩ : ∃ W3, w2.drewN nq = W3 ∧ Dat W3 B D bd bs n va rows (k.spent a) ∧ Blk W3 w.heap.size 116 #[.string a.frm, .string a.to, .pointer q] ∧ Keeps (dset D bd bs va rows (k.spent a)) w W3 := ⟨_, rfl, hy nq hu, hbx.drewN nq, ((Keeps.of_below B1).trans k2).drewN nq⟩
      rw [eW]
      clear eW qc qf bc hrun h3 h4 hx hy hdat hbx
      have hDd := hD3.keeps (S := fun _ => False) (((Keeps.refl _ W3).alloc (.cells #[.string a.frm, .string a.to, .pointer q] 116)).drew) (fun _ _ => id)
      have hOne : Blk (W3.alloc (.cells #[.string a.frm, .string a.to, .pointer q] 116)).drew W3.heap.size 116 #[.string a.frm, .string a.to, ptrV a.file] := by rw [hq]; exact (Blk.new _ _ _).drew
      obtain ⟨v', w', P⟩ := hDd.push a hOne (by show k.burn.acts.length ≤ 1000000; omega) (by show B ≤ (W3.alloc _).heap.size; have := hk3.size; simp; omega)
      obtain ⟨p5, m5, c5, rfl⟩ := P.shape
      have e1 : (dappOp _ _ _).run Tryz.prog _ = _ := P.run
      have c1 := P.cell
      have f1 := P.frozen
      have qc := hD3.blk.cell
      have bc := hbx3.cell
      have l1 := hD3.blk.lt
      have l2 := hbx3.lt
      have P' := Lib.hid P
      unfold dcells at c1
      clear P
      go_region
      obtain ⟨X4, n1, n2⟩ := P'.out.dat.dir
      have hbx4 := hbx3.keeps ((Keeps.refl (fun j => va.ownBlock = some j ∨ j = D) W3).trans (((Keeps.refl _ W3).alloc _).drew.trans P'.out.keeps)) (by
        rintro (e | e)
        · have := hOl w.heap.size (.inr (.inr (.inr (.inl e)))); omega
        · have := hOl w.heap.size (.inl e); omega)
      have hD4 := P'.out.dat.blk
      have hE := fun W5 X' => do_end (W5 := W5) (X' := X') (w := w) (by have := hk3.size; simp; omega) ((hk3.alloc _).drew) P'.out hn
      obtain ⟨W4, eW4⟩ : ∃ W4, w'.setCell ⟨D, 5, none⟩ (.slice p5 m5 c5) = W4 := ⟨_, rfl⟩
      rw [eW4] at n1 hbx4 hD4 hE
      rw [eW4]
      have hd8 := does_calls a bd n X4 _ W4.drew ha (map_keeps (S := fun _ => False) n1 ((Keeps.refl _ _).drew) id) n2 (by unfold maxLen; omega)
      unfold DAct.v at hd8
      rw [hq] at hd8
      have nb1 : ¬ w.heap.size = bd := fun e => by have := hOl bd (.inr (.inl rfl)); omega
      have nb2 : ¬ D = bd := fun e => map_ne n1 hD4 e.symm
      have hd8' := Lib.hid hd8
      have hE' := Lib.hid hE
      clear hd8 hE P' e1 c1 f1 eW4
      go_wp2_with fail
      go_region_held3 (fun w' => (∀ i, w'.cell? ⟨w.heap.size, i, none⟩ = (#[.string a.frm, .string a.to, .pointer q] : Array Value)[i]?) ∧ w'.cell? ⟨D, 3, none⟩ = some (.map (some bd))) (first | exact ⟨hbx4.drew.cell, hD4.drew.cell 3⟩ | exact ⟨(hbx4.drew.keeps p3 nb1).cell, (hD4.drew.keeps p3 nb2).cell 3⟩) ((go_at_call 67; with_reducible refine hd8'.out.mono ?_; rintro e w5 ⟨rfl, ⟨X5, p1, p2⟩, p3⟩))
      go_wp2_with fail
      go_ret
      obtain ⟨r1, r2⟩ := hE'.out _ _ p1 p2 ((Keeps.refl _ _).drew.trans p3)
      exact ⟨rfl, r1, r2⟩
    | some f =>
      rw [hdir] at hrun
      unfold ptrV at hrun
      by_cases hf : a.file = some f
      · have hu : k.burn.usedBy a = k.burn.used := by unfold Dk.usedBy; rw [hdir]; simp [hf]
        have hsame := file_same ⟨f, 0, none⟩
        obtain rfl : q = some ⟨f, 0, none⟩ := by rw [hf] at hq; unfold ptrV at hq; simpa using hq.symm
        go_wp2_with fail
        go_quiet (fail)
        rename_i nq
        go_wp2_with fail
        obtain ⟨W3, eW, hD3, hbx3, hk3⟩ : ∃ W3, w2.drewN nq = W3 ∧ Dat W3 B D bd bs n va rows (k.spent a) ∧ Blk W3 w.heap.size 116 #[.string a.frm, .string a.to, .pointer (some ⟨f, 0, none⟩)] ∧ Keeps (dset D bd bs va rows (k.spent a)) w W3 := ⟨_, rfl, hy nq hu, hbx.drewN nq, ((Keeps.of_below B1).trans k2).drewN nq⟩
        rw [eW]
        clear eW qc qf bc hrun h3 h4 hx hy hdat hbx
        have hDd := hD3.keeps (S := fun _ => False) (((Keeps.refl _ W3).alloc (.cells #[.string a.frm, .string a.to, .pointer (some ⟨f, 0, none⟩)] 116)).drew) (fun _ _ => id)
        have hOne : Blk (W3.alloc (.cells #[.string a.frm, .string a.to, .pointer (some ⟨f, 0, none⟩)] 116)).drew W3.heap.size 116 #[.string a.frm, .string a.to, ptrV a.file] := by rw [hq]; exact (Blk.new _ _ _).drew
        obtain ⟨v', w', P⟩ := hDd.push a hOne (by show k.burn.acts.length ≤ 1000000; omega) (by show B ≤ (W3.alloc _).heap.size; have := hk3.size; simp; omega)
        obtain ⟨p5, m5, c5, rfl⟩ := P.shape
        have e1 : (dappOp _ _ _).run Tryz.prog _ = _ := P.run
        have c1 := P.cell
        have f1 := P.frozen
        have qc := hD3.blk.cell
        have bc := hbx3.cell
        have l1 := hD3.blk.lt
        have l2 := hbx3.lt
        have P' := Lib.hid P
        unfold dcells at c1
        clear P
        go_region
        obtain ⟨X4, n1, n2⟩ := P'.out.dat.dir
        have hbx4 := hbx3.keeps ((Keeps.refl (fun j => va.ownBlock = some j ∨ j = D) W3).trans (((Keeps.refl _ W3).alloc _).drew.trans P'.out.keeps)) (by
          rintro (e | e)
          · have := hOl w.heap.size (.inr (.inr (.inr (.inl e)))); omega
          · have := hOl w.heap.size (.inl e); omega)
        have hD4 := P'.out.dat.blk
        have hE := fun W5 X' => do_end (W5 := W5) (X' := X') (w := w) (by have := hk3.size; simp; omega) ((hk3.alloc _).drew) P'.out hn
        obtain ⟨W4, eW4⟩ : ∃ W4, w'.setCell ⟨D, 5, none⟩ (.slice p5 m5 c5) = W4 := ⟨_, rfl⟩
        rw [eW4] at n1 hbx4 hD4 hE
        rw [eW4]
        have hd8 := does_calls a bd n X4 _ W4.drew ha (map_keeps (S := fun _ => False) n1 ((Keeps.refl _ _).drew) id) n2 (by unfold maxLen; omega)
        unfold DAct.v at hd8
        rw [hq] at hd8
        have nb1 : ¬ w.heap.size = bd := fun e => by have := hOl bd (.inr (.inl rfl)); omega
        have nb2 : ¬ D = bd := fun e => map_ne n1 hD4 e.symm
        have hd8' := Lib.hid hd8
        have hE' := Lib.hid hE
        clear hd8 hE P' e1 c1 f1 eW4
        go_wp2_with fail
        go_region_held3 (fun w' => (∀ i, w'.cell? ⟨w.heap.size, i, none⟩ = (#[.string a.frm, .string a.to, .pointer (some ⟨f, 0, none⟩)] : Array Value)[i]?) ∧ w'.cell? ⟨D, 3, none⟩ = some (.map (some bd))) (first | exact ⟨hbx4.drew.cell, hD4.drew.cell 3⟩ | exact ⟨(hbx4.drew.keeps p3 nb1).cell, (hD4.drew.keeps p3 nb2).cell 3⟩) ((go_at_call 67; with_reducible refine hd8'.out.mono ?_; rintro e w5 ⟨rfl, ⟨X5, p1, p2⟩, p3⟩))
        go_wp2_with fail
        go_ret
        obtain ⟨r1, r2⟩ := hE'.out _ _ p1 p2 ((Keeps.refl _ _).drew.trans p3)
        exact ⟨rfl, r1, r2⟩
      · obtain ⟨x, hx0⟩ := Option.isSome_iff_exists.1 (hk.live _ f (by rw [← s1]; exact hdir))
        rw [← s4] at hx0
        have hu : k.burn.usedBy a = k.burn.used - x.data.length := by
          unfold Dk.usedBy; rw [hdir]; simp only [hf, if_false]; unfold Dk.size; rw [hx0]; rfl
        obtain ⟨_, hfb, hfr, _⟩ := hdat.file f x hx0
        have hxl : x.data.length ≤ 16777216000 := by have := hk.small f x (by rw [← s4]; exact hx0); omega
        have hother : ∀ nq, (binOp .neq 97 (.pointer (some ⟨f, 0, none⟩)) (.pointer q)).run Tryz.prog (w2.drewN nq) = .ok (.bool true) (w2.drewN nq) := fun nq => by
          cases hfile : a.file with
          | none => rw [hfile] at hq; unfold ptrV at hq; obtain rfl : q = none := by simpa using hq.symm
                    exact file_nil
          | some p =>
            rw [hfile] at hq hf; unfold ptrV at hq; obtain rfl : q = some ⟨p, 0, none⟩ := by simpa using hq.symm
            obtain ⟨x', hx'⟩ := Option.isSome_iff_exists.1 (hlive p hfile)
            rw [← s4] at hx'
            exact file_other (fun e => hf (by rw [e])) (hfb.drewN nq) ((hdat.file p x' hx').2.1.drewN nq)
        have fc := hfb.cell
        obtain ⟨rp, rc, hrw⟩ := own_slice hfr
        rw [hrw] at fc
        go_wp2_with fail
        go_quiet (fail)
        rename_i nq
        have ho := hother nq
        go_wp2_with fail
        have lD := hdat.blk.lt
        have lf := hfb.lt
        go_region
        go_wp2_with fail
        obtain ⟨W3, eW, hD3, hbx3, hk3⟩ : ∃ W3, (w2.drewN (nq + 1)).setCell ⟨D, 6, none⟩ (.int .i64 (k.used - x.data.length)) = W3 ∧ Dat W3 B D bd bs n va rows (k.spent a) ∧ Blk W3 w.heap.size 116 #[.string a.frm, .string a.to, .pointer q] ∧ Keeps (dset D bd bs va rows (k.spent a)) w W3 := ⟨_, rfl, hx (nq + 1) _ (by rw [hu, s6]), (hbx.drewN (nq + 1)).keeps (Keeps.setCell (S := fun j => j = D) (Keeps.refl _ _) (p := ⟨D, 6, none⟩) (.inl rfl) _) (fun e => by have := hOl D (.inl rfl); omega), (((Keeps.of_below B1).trans k2).drewN (nq + 1)).setCell (p := ⟨D, 6, none⟩) (.inl (.inl rfl)) _⟩
        rw [eW]
        clear eW qc qf bc hrun h3 h4 hx hy hdat hbx
        have hDd := hD3.keeps (S := fun _ => False) (((Keeps.refl _ W3).alloc (.cells #[.string a.frm, .string a.to, .pointer q] 116)).drew) (fun _ _ => id)
        have hOne : Blk (W3.alloc (.cells #[.string a.frm, .string a.to, .pointer q] 116)).drew W3.heap.size 116 #[.string a.frm, .string a.to, ptrV a.file] := by rw [hq]; exact (Blk.new _ _ _).drew
        obtain ⟨v', w', P⟩ := hDd.push a hOne (by show k.burn.acts.length ≤ 1000000; omega) (by show B ≤ (W3.alloc _).heap.size; have := hk3.size; simp; omega)
        obtain ⟨p5, m5, c5, rfl⟩ := P.shape
        have e1 : (dappOp _ _ _).run Tryz.prog _ = _ := P.run
        have c1 := P.cell
        have f1 := P.frozen
        have qc := hD3.blk.cell
        have bc := hbx3.cell
        have l1 := hD3.blk.lt
        have l2 := hbx3.lt
        have P' := Lib.hid P
        unfold dcells at c1
        clear P
        go_region
        obtain ⟨X4, n1, n2⟩ := P'.out.dat.dir
        have hbx4 := hbx3.keeps ((Keeps.refl (fun j => va.ownBlock = some j ∨ j = D) W3).trans (((Keeps.refl _ W3).alloc _).drew.trans P'.out.keeps)) (by
          rintro (e | e)
          · have := hOl w.heap.size (.inr (.inr (.inr (.inl e)))); omega
          · have := hOl w.heap.size (.inl e); omega)
        have hD4 := P'.out.dat.blk
        have hE := fun W5 X' => do_end (W5 := W5) (X' := X') (w := w) (by have := hk3.size; simp; omega) ((hk3.alloc _).drew) P'.out hn
        obtain ⟨W4, eW4⟩ : ∃ W4, w'.setCell ⟨D, 5, none⟩ (.slice p5 m5 c5) = W4 := ⟨_, rfl⟩
        rw [eW4] at n1 hbx4 hD4 hE
        rw [eW4]
        have hd8 := does_calls a bd n X4 _ W4.drew ha (map_keeps (S := fun _ => False) n1 ((Keeps.refl _ _).drew) id) n2 (by unfold maxLen; omega)
        unfold DAct.v at hd8
        rw [hq] at hd8
        have nb1 : ¬ w.heap.size = bd := fun e => by have := hOl bd (.inr (.inl rfl)); omega
        have nb2 : ¬ D = bd := fun e => map_ne n1 hD4 e.symm
        have hd8' := Lib.hid hd8
        have hE' := Lib.hid hE
        clear hd8 hE P' e1 c1 f1 eW4
        go_wp2_with fail
        go_region_held3 (fun w' => (∀ i, w'.cell? ⟨w.heap.size, i, none⟩ = (#[.string a.frm, .string a.to, .pointer q] : Array Value)[i]?) ∧ w'.cell? ⟨D, 3, none⟩ = some (.map (some bd))) (first | exact ⟨hbx4.drew.cell, hD4.drew.cell 3⟩ | exact ⟨(hbx4.drew.keeps p3 nb1).cell, (hD4.drew.keeps p3 nb2).cell 3⟩) ((go_at_call 67; with_reducible refine hd8'.out.mono ?_; rintro e w5 ⟨rfl, ⟨X5, p1, p2⟩, p3⟩))
        go_wp2_with fail
        go_ret
        obtain ⟨r1, r2⟩ := hE'.out _ _ p1 p2 ((Keeps.refl _ _).drew.trans p3)
        exact ⟨rfl, r1, r2⟩
end Go.Proofs.YtabcdodjkfknlaaGreatDoor
