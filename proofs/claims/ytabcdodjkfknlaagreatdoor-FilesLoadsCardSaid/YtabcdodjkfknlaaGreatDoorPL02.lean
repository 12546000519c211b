/- The program's disk: one more act is noted. Walk: the program's disk: do. Walks: the program's disk: Create. Bytes in memory; a file of a disk that is turned. -/
import Derived.Test.YtabcdodjkfknlaaGreatDoorPL01
import Derived.Maps.AppendAt
import Derived.BigQuiet
import Derived.BigRegion
import Derived.Deep.RegionHeld3
import Derived.LaidEqlPtr
import Derived.Lib.Builder
import Derived.Laws.OwnMore
namespace Go.Proofs.YtabcdodjkfknlaaGreatDoor
open Go.RowKit Go.Maps
theorem info_act : (Tryz.prog.info? 116).map (fun i => (i.zero, i.size, i.bytes)) = some (some (.agg #[.string ⟨#[]⟩, .string ⟨#[]⟩, .pointer none]), 3, 40) := by kernel_rfl
theorem acells_snoc (l : List DAct) (a : DAct) : acells (l ++ [a]) = acells l ++ [.string a.frm, .string a.to, ptrV a.file] := by
  unfold acells
  rw [List.flatMap_append]
  simp
theorem ptrV_one (p : Option Nat) : (ptrV p).oneCell' = true := by cases p <;> rfl
/-- the blocks of a disk but its acts' row, held against that row -/
theorem Dat.row_ne {w : World} {B D bd bs n : Nat} {va : Value} {rows : Nat → Value} {k : Dk} (h : Dat w B D bd bs n va rows k) : va.ownBlock ≠ some D ∧ va.ownBlock ≠ some bd ∧ va.ownBlock ≠ some bs ∧ ∀ f x, k.file f = some x → va.ownBlock ≠ some f ∧ ∀ b, (rows f).ownBlock = some b → va.ownBlock ≠ some b := by
  obtain ⟨X, h1, _⟩ := h.dir
  obtain ⟨Y, h3, _⟩ := h.safe
  have hm : ∀ {b n : Nat} {X : DataW Unit}, w.ownsMap Tryz.prog 9 ptrR b n X → va.ownBlock ≠ some b := by
    intro b n X hX e
    obtain ⟨_, ⟨rfl, _⟩ | ⟨g, cap, cur, rfl, _, hg, _⟩⟩ := h.acts
    · cases e
    · obtain ⟨es, clock, hb, _⟩ := hX
      obtain rfl : g = b := by simpa [Value.ownBlock] using e
      rw [hg] at hb
      cases hb
  refine ⟨own_blk_ne h.acts h.blk (by decide), hm h1, hm h3, fun f x hf => ?_⟩
  obtain ⟨_, f2, f3, _⟩ := h.file f x hf
  refine ⟨own_blk_ne h.acts f2 (by decide), fun b hb e => ?_⟩
  obtain ⟨_, ⟨h4, _⟩ | ⟨g, cap, cur, h4, _, hg, _⟩⟩ := h.acts
  · rw [h4] at e; cases e
  · obtain ⟨_, ⟨h5, _⟩ | ⟨g', cap', cur', h5, _, hg', _⟩⟩ := f3
    · rw [h5] at hb; cases hb
    · rw [h4] at e
      rw [h5] at hb
      obtain rfl : g = b := by simpa [Value.ownBlock] using e
      obtain rfl : g' = g := by simpa [Value.ownBlock] using hb
      rw [hg] at hg'
      cases hg'
/-- what is left behind the note -/
structure Push (w : World) (B D bd bs n : Nat) (va : Value) (rows : Nat → Value) (k k' : Dk) (o : Nat) (v' : Value) (w' : World) : Prop where
  run : (Builtin.append_ #[80, 80] 80 #[va, .slice (some ⟨o, 0, none⟩) 1 1]).run Tryz.prog w = .ok v' w'
  cell : ∀ i, w'.cell? ⟨D, i, none⟩ = (dcells k bd bs va)[i]?
  frozen : ∀ i, w'.frozen? ⟨D, i, none⟩ = false
  shape : ∃ p m c, v' = .slice p m c
  dat : Dat (w'.setCell ⟨D, 5, none⟩ v') B D bd bs n v' rows k'
  keeps : Keeps (fun j => va.ownBlock = some j ∨ j = D) w (w'.setCell ⟨D, 5, none⟩ v')
  lies : v'.ownBlock = va.ownBlock ∨ v'.ownBlock = some w.heap.size
theorem Dat.push {w : World} {B D bd bs n : Nat} {va : Value} {rows : Nat → Value} {k : Dk} (h : Dat w B D bd bs n va rows k) (a : DAct) {o : Nat} (ho : Blk w o 116 #[.string a.frm, .string a.to, ptrV a.file]) (hl : k.acts.length ≤ 1000000) (hB : B ≤ w.heap.size) :
    ∃ v' w', Push w B D bd bs n va rows k { k with acts := k.acts ++ [a], room := k.room + 1 } o v' w' := by
  obtain ⟨i0, hi, hz0, hz1, hz2⟩ := info_parts info_act
  obtain ⟨v', w', h2, h3, h4, _, h5⟩ := run_append_own_at (P := Tryz.prog) w B 80 80 116 i0 (.agg #[.string ⟨#[]⟩, .string ⟨#[]⟩, .pointer none]) 3 40 Tryz.underlying80 hi hz0 hz1 hz2 rfl (by decide) va k.acts.length _ h.acts ⟨o, 0, none⟩ 1 1 [.string a.frm, .string a.to, ptrV a.file] rfl (by
      intro j u hj
      have e : (⟨o, 0, none⟩ : Addr).add j = ⟨o, j, none⟩ := by
        unfold Addr.add
        split
        · rename_i h0; subst h0; rfl
        · simp
      rw [e, ho.cell j, ← hj]
      simp) (by
      intro u hu
      simp at hu
      rcases hu with rfl | rfl | rfl
      · rfl
      · rfl
      · exact ptrV_one _) (by unfold maxLen; omega) (by omega) hB
  obtain ⟨r1, r2, r3, r4⟩ := h.row_ne
  have hk : Keeps (fun j => va.ownBlock = some j) w w' := (Keeps.refl _ w).grown h4 (fun j e => .inl (by rw [e]))
  have hD := h.blk.keeps hk r1
  have hne : v'.ownBlock ≠ some D := own_blk_ne h3 hD (by decide)
  have hs : Keeps (fun j => j = D) w' (w'.setCell ⟨D, 5, none⟩ v') := Keeps.setCell (S := fun j => j = D) (Keeps.refl _ w') (p := ⟨D, 5, none⟩) (.inl rfl) _
  obtain ⟨X, m1, d1⟩ := h.dir
  obtain ⟨Y, m2, d2⟩ := h.safe
  have m1' := map_keeps m1 hk r2
  have m2' := map_keeps m2 hk r3
  refine ⟨v', w', h2, hD.cell, hD.frozen, ?_, ⟨hD.set_ 5 _, ⟨X, map_keeps m1' hs (map_ne m1' hD), d1⟩, ⟨Y, map_keeps m2' hs (map_ne m2' hD), d2⟩, h.two, ?_, fun f x hf => ?_, h.apart, h.base⟩, ?_, h5⟩
  · obtain ⟨_, ⟨rfl, _⟩ | ⟨g, cap, cur, rfl, _⟩⟩ := h3
    · exact ⟨_, _, _, rfl⟩
    · exact ⟨_, _, _, rfl⟩
  · have h6 := own_keeps h3 hs (fun g hg e => hne (by rw [hg, e]))
    show World.ownsRow _ _ _ _ _ (k.acts ++ [a]).length (acells (k.acts ++ [a]))
    rw [List.length_append, acells_snoc]
    exact h6
  · obtain ⟨f1, f2, f3, f4⟩ := h.file f x hf
    obtain ⟨r5, r6⟩ := r4 f x hf
    have f2' := f2.keeps hk r5
    have f3' := own_keeps f3 hk r6
    exact ⟨f1, f2'.keeps hs (fun e => f2'.ne_ hD (by decide) e), own_keeps f3' hs (fun g hg e => own_blk_ne f3' hD (by decide) (by rw [hg, e])), f4⟩
  · exact (hk.mono (fun _ _ e => .inl e)).setCell (p := ⟨D, 5, none⟩) (.inl (.inr rfl)) _
end Go.Proofs.YtabcdodjkfknlaaGreatDoor
namespace Go.Proofs.YtabcdodjkfknlaaGreatDoor
open Go.RowKit Go.Maps
attribute [local go_sem ↓] dapp_op
def Dk.size (k : Dk) (f : Nat) : Nat := ((k.file f).map fun x => x.data.length).getD 0
def Dk.usedBy (k : Dk) (a : DAct) : Int := match k.dir a.to.data.toList with
  | none => k.used
  | some f => if a.file = some f then k.used else k.used - k.size f
def Dk.noted (k : Dk) (a : DAct) : Dk := { k with acts := k.acts ++ [a], dir := a.does k.dir, room := k.room + 1 }
def Dk.spent (k : Dk) (a : DAct) : Dk := { k.burn with used := k.burn.usedBy a }
def Dk.did (k : Dk) (a : DAct) : Dk := (k.spent a).noted a
/-- what is so of every disk -/
structure Dk.ok (k : Dk) : Prop where
  cap : k.cap ≤ 16777216
  fuse : -1 ≤ k.fuse ∧ k.fuse < 9223372036854775808
  used : -(k.room * 1073741824 : Int) ≤ k.used ∧ k.used ≤ k.room * 1073741824
  live : ∀ s f, k.dir s = some f → (k.file f).isSome = true
  slive : ∀ s f, k.safe s = some f → (k.file f).isSome = true
  acts : ∀ a, a ∈ k.acts → a.ok ∧ ∀ p, a.file = some p → (k.file p).isSome = true
  small : ∀ f x, k.file f = some x → x.data.length ≤ k.room * 65536
theorem burn_same (k : Dk) : k.burn.dir = k.dir ∧ k.burn.safe = k.safe ∧ k.burn.acts = k.acts ∧ k.burn.file = k.file ∧ k.burn.room = k.room ∧ k.burn.used = k.used ∧ k.burn.cap = k.cap ∧ k.burn.slots = k.slots := by
  unfold Dk.burn
  split
  · exact ⟨rfl, rfl, rfl, rfl, rfl, rfl, rfl, rfl⟩
  · split <;> exact ⟨rfl, rfl, rfl, rfl, rfl, rfl, rfl, rfl⟩
theorem info_file : (Tryz.prog.info? 101).map (fun i => (i.zero, i.size, i.bytes)) = some (some (.agg #[.slice none 0 0, .int .i64 0]), 2, 32) := by kernel_rfl
theorem file_same (a : Addr) (w : World) : (binOp .neq 97 (.pointer (some a)) (.pointer (some a))).run Tryz.prog w = .ok (.bool false) w := by
  obtain ⟨i0, hi, _, _, _⟩ := info_parts info_file
  exact Lib.run_neq_ptr_same w a Tryz.underlying97 hi
theorem file_other {w : World} {f p : Nat} {cs cs' : Array Value} {T T' : TypeId} (hne : f ≠ p) (h1 : Blk w f T cs) (h2 : Blk w p T' cs') : (binOp .neq 97 (.pointer (some ⟨f, 0, none⟩)) (.pointer (some ⟨p, 0, none⟩))).run Tryz.prog w = .ok (.bool true) w := by
  obtain ⟨i0, hi, _, hz, _⟩ := info_parts info_file
  have hsz : i0.size ≠ 0 := by omega
  have hab : (⟨f, 0, none⟩ : Addr) ≠ ⟨p, 0, none⟩ := fun e => hne (congrArg Addr.block e)
  have h : ∀ d : Nat, (Op.equalIn (d + 1) 97 (.pointer (some ⟨f, 0, none⟩)) (.pointer (some ⟨p, 0, none⟩))).run Tryz.prog w = .ok false w := fun d => by
    simp [Op.equalIn, run_underlying Tryz.underlying97, sizeOf, typeInfo, hi, hsz, run_sameAddr_other w hab h1 h2]
  simp only [binOp]
  simp [Op.equal, Op.maxDepth, h 9999]
theorem file_nil {w : World} {f : Nat} : (binOp .neq 97 (.pointer (some ⟨f, 0, none⟩)) (.pointer none)).run Tryz.prog w = .ok (.bool true) w := by
  obtain ⟨i0, hi, _, hz, _⟩ := info_parts info_file
  have h : ∀ d : Nat, (Op.equalIn (d + 1) 97 (.pointer (some ⟨f, 0, none⟩)) (.pointer none)).run Tryz.prog w = .ok false w := fun d => by
    simp [Op.equalIn, run_underlying Tryz.underlying97]
  simp only [binOp]
  simp [Op.equal, Op.maxDepth, h 9999]
/-- only the struct is turned -/
theorem Dat.field {w w' : World} {B D bd bs n : Nat} {va : Value} {rows : Nat → Value} {k k' : Dk} (hd : Dat w B D bd bs n va rows k) (hk : Keeps (fun j => j = D) w w') (hb : Blk w' D 82 (dcells k' bd bs va)) (hs : k'.dir = k.dir ∧ k'.safe = k.safe ∧ k'.acts = k.acts ∧ k'.file = k.file ∧ k'.slots = k.slots) :
    Dat w' B D bd bs n va rows k' := by
  obtain ⟨s1, s2, s3, s4, s5⟩ := hs
  obtain ⟨X, h1, h2⟩ := hd.dir
  obtain ⟨Y, h3, h4⟩ := hd.safe
  refine ⟨hb, ⟨X, map_keeps h1 hk (map_ne h1 hd.blk), by rw [s1]; exact h2⟩, ⟨Y, by rw [s5]; exact map_keeps h3 hk (map_ne h3 hd.blk), by rw [s2]; exact h4⟩, hd.two, by rw [s3]; exact own_keeps hd.acts hk (fun g hg e => own_blk_ne hd.acts hd.blk (by decide) (by rw [hg, e])), ?_, by rw [s4]; exact hd.apart, hd.base⟩
  rw [s4]
  intro f x hf
  obtain ⟨f1, f2, f3, f4⟩ := hd.file f x hf
  exact ⟨f1, f2.keeps hk (fun e => f2.ne_ hd.blk (by decide) e), own_keeps f3 hk (fun g hg e => own_blk_ne f3 hd.blk (by decide) (by rw [hg, e])), f4⟩
theorem own_map_ne {w : World} {B k m b n : Nat} {e : TypeId} {v : Value} {xs : List Value} {X : DataW Unit} (h : w.ownsRow B e k v m xs) (hX : w.ownsMap Tryz.prog 9 ptrR b n X) : v.ownBlock ≠ some b := by
  intro e
  obtain ⟨_, ⟨rfl, _⟩ | ⟨g, cap, cur, rfl, _, hg, _⟩⟩ := h
  · cases e
  · obtain ⟨es, clock, hb, _⟩ := hX
    obtain rfl : g = b := by simpa [Value.ownBlock] using e
    rw [hg] at hb
    cases hb
/-- only the directory is turned -/
theorem Dat.turn {w w' : World} {B D bd bs n : Nat} {va : Value} {rows : Nat → Value} {k : Dk} (hd : Dat w B D bd bs n va rows k) {X' : DataW Unit} {g : List UInt8 → Option Nat} (hm : w'.ownsMap Tryz.prog 9 ptrR bd (n + 1) X') (hX : dirIs X' g) (hk : Keeps (fun j => j = bd) w w') :
    Dat w' B D bd bs (n + 1) va rows { k with dir := g } := by
  obtain ⟨X, h1, h2⟩ := hd.dir
  obtain ⟨Y, h3, h4⟩ := hd.safe
  refine ⟨hd.blk.keeps hk (fun e => map_ne h1 hd.blk e.symm), ⟨X', hm, hX⟩, ⟨Y, map_keeps h3 hk (fun e => hd.two e.symm), h4⟩, hd.two, own_keeps hd.acts hk (fun g hg e => own_map_ne hd.acts h1 (by rw [hg, e])), fun f x hf => ?_, hd.apart, hd.base⟩
  obtain ⟨f1, f2, f3, f4⟩ := hd.file f x hf
  exact ⟨f1, f2.keeps hk (fun e => map_ne h1 f2 e.symm), own_keeps f3 hk (fun g hg e => own_map_ne f3 h1 (by rw [hg, e])), f4⟩
theorem do_end {w W3 w' W5 : World} {B D bd bs n o : Nat} {va v' : Value} {rows : Nat → Value} {k : Dk} {a : DAct} {X' : DataW Unit} (hl : w.heap.size ≤ W3.heap.size)
    (hk : Keeps (dset D bd bs va rows k) w W3) (hP : Push W3 B D bd bs n va rows k { k with acts := k.acts ++ [a], room := k.room + 1 } o v' w') (hn : n ≤ k.room ∧ k.slots + k.acts.length ≤ k.room)
    (hm : W5.ownsMap Tryz.prog 9 ptrR bd (n + 1) X') (hX : dirIs X' (a.does k.dir)) (hK : Keeps (fun j => j = bd) (w'.setCell ⟨D, 5, none⟩ v') W5) :
    (∃ O', Disk W5 B D O' (k.noted a) ∧ ∀ j, O' j → dset D bd bs va rows k j ∨ w.heap.size ≤ j) ∧ Keeps (dset D bd bs va rows k) w W5 := by
  have hd := hP.dat.turn hm hX hK
  refine ⟨⟨_, ⟨bd, bs, n + 1, v', rows, ⟨hd.blk, hd.dir, hd.safe, hd.two, hd.acts, hd.file, hd.apart, hd.base⟩, ⟨by show n + 1 ≤ k.room + 1; omega, by show k.slots + (k.acts ++ [a]).length ≤ k.room + 1; simp; omega⟩, rfl⟩, ?_⟩, (hk.trans (hP.keeps.mono ?_)).trans (hK.mono ?_)⟩
  · rintro j (h | h | h | h | h)
    · exact .inl (.inl h)
    · exact .inl (.inr (.inl h))
    · exact .inl (.inr (.inr (.inl h)))
    · rcases hP.lies with e | e
      · exact .inl (.inr (.inr (.inr (.inl (by rw [← e]; exact h)))))
      · rw [e] at h
        obtain rfl := Option.some.inj h
        exact .inr hl
    · exact .inl (.inr (.inr (.inr (.inr h))))
  · rintro j _ (e | e)
    · exact .inr (.inr (.inr (.inl e)))
    · exact .inl e
  · rintro j _ e
    exact .inr (.inl e)
set_option maxHeartbeats 4000000 in
set_option maxRecDepth 100000 in
theorem do_calls (k : Dk) (B D : Nat) (O : Nat → Prop) (a : DAct) (w : World) (hd : Disk w B D O k) (hk : k.ok) (ha : a.ok) (hlive : ∀ p, a.file = some p → (k.file p).isSome = true) (hr : k.room < 4000) (hB : B ≤ w.heap.size) :
    Calls Tryz.prog 92 #[.pointer (some ⟨D, 0, none⟩), a.v] w fun e w' => e = .returned (.int .i64 (errDown k.burns)) ∧ (∃ O', Disk w' B D O' (if k.burns then k.did a else k.burn) ∧ ∀ j, O' j → O j ∨ w.heap.size ≤ j) ∧ Keeps O w w' := by
  have hOl := hd.lt
  have B1 := (Below.refl w.heap.size w).alloc (Nat.le_refl _) (.cells #[.string a.frm, .string a.to, ptrV a.file] 116)
  have hd1 := hd.later B1
  have hC := burn_calls k B D O _ hd1 hk.fuse
  have hC' := Lib.hid hC
  have bx := Blk.new w 116 #[.string a.frm, .string a.to, ptrV a.file]
  clear hC
  have hpv : ∃ q, ptrV a.file = .pointer q := by cases a.file <;> exact ⟨_, rfl⟩
  obtain ⟨q, hq⟩ := hpv
  unfold DAct.v
  rw [hq] at hC' bx B1 ⊢
  cases hbn : k.burns
  · rw [hbn] at hC'
    go_enter Tryz.func92, Tryz.ntmps92
    go_wp2_with fail
    refine hC'.out.mono ?_
    rintro e w2 ⟨rfl, h2, k2⟩
    unfold errDown
    go_wp2
    go_ret
    exact ⟨rfl, ⟨O, h2, fun j hj => .inl hj⟩, (Keeps.of_below B1).trans k2⟩
  · rw [hbn] at hC'
    go_enter Tryz.func92, Tryz.ntmps92
    go_wp2_with fail
    refine hC'.out.mono ?_
    rintro e w2 ⟨rfl, h2, k2⟩
    have hbx := bx.keeps k2 (fun e => by have := hOl _ e; omega)
    obtain ⟨bd, bs, n, va, rows, hdat, hn, rfl⟩ := h2
    obtain ⟨X, h3, h4⟩ := hdat.dir
    have hrun : ∀ nq, (Instr.lookup 79 (.map (some bd)) (.string a.to) false).run Tryz.prog (w2.drewN nq) = .ok (ptrV (k.burn.dir a.to.data.toList)) (w2.drewN nq) := fun nq => dir_run (map_keeps (S := fun _ => False) h3 ((Keeps.refl _ _).drewN nq) id) h4 ha.to
    have qc := hdat.blk.cell
    have qf := hdat.blk.frozen
    have bc := hbx.cell
    obtain ⟨s1, s2, s3, s4, s5, s6, s7, s8⟩ := burn_same k
    have hacts : k.burn.acts.length ≤ 100000 := by have := hn.2; rw [s5] at this; omega
    have hus : -1000000000000000000 ≤ k.used ∧ k.used ≤ 1000000000000000000 := by have := hk.used; omega
    unfold errDown
    clear hC' bx hd1 hd
    have hx : ∀ (nq : Nat) (x : Int), x = k.burn.usedBy a → Dat ((w2.drewN nq).setCell ⟨D, 6, none⟩ (.int .i64 x)) B D bd bs n va rows (k.spent a) := fun nq x hx => by
      subst hx
      have h0 := hdat.keeps (S := fun _ => False) ((Keeps.refl _ _).drewN nq) (fun _ _ => id)
      exact h0.field (Keeps.setCell (S := fun j => j = D) (Keeps.refl _ _) (p := ⟨D, 6, none⟩) (.inl rfl) _) (h0.blk.set_ 6 _) ⟨rfl, rfl, rfl, rfl, rfl⟩
    have hy : ∀ nq : Nat, k.burn.usedBy a = k.burn.used → Dat (w2.drewN nq) B D bd bs n va rows (k.spent a) := fun nq hu => by
      have e : k.spent a = k.burn := by unfold Dk.spent; rw [hu]
      rw [e]
      exact hdat.keeps (S := fun _ => False) ((Keeps.refl _ _).drewN nq) (fun _ _ => id)
    cases hdir : k.burn.dir a.to.data.toList with
    | none =>
      have hu : k.burn.usedBy a = k.burn.used := by unfold Dk.usedBy; rw [hdir]
      rw [hdir] at hrun
      unfold ptrV at hrun
      go_wp2_with fail
      go_quiet (fail)
      rename_i nq
      go_wp2_with fail
      obtain ⟨W3, eW, hD3, hbx3, hk3⟩ : ∃ W3, w2.drewN nq = W3 ∧ Dat W3 B D bd bs n va rows (k.spent a) ∧ Blk W3 w.heap.size 116 #[.string a.frm, .string a.to, .pointer q] ∧ Keeps (dset D bd bs va rows (k.spent a)) w W3 := ⟨_, rfl, hy nq hu, hbx.drewN nq, ((Keeps.of_below B1).trans k2).drewN nq⟩
      rw [eW]
      clear eW qc qf bc hrun h3 h4 hx hy hdat hbx
      have hDd := hD3.keeps (S := fun _ => False) (((Keeps.refl _ W3).alloc (.cells #[.string a.frm, .string a.to, .pointer q] 116)).drew) (fun _ _ => id)
      have hOne : Blk (W3.alloc (.cells #[.string a.frm, .string a.to, .pointer q] 116)).drew W3.heap.size 116 #[.string a.frm, .string a.to, ptrV a.file] := by rw [hq]; exact (Blk.new _ _ _).drew
      obtain ⟨v', w', P⟩ := hDd.push a hOne (by show k.burn.acts.length ≤ 1000000; omega) (by show B ≤ (W3.alloc _).heap.size; have := hk3.size; simp; omega)
      obtain ⟨p5, m5, c5, rfl⟩ := P.shape
      have e1 : (dappOp _ _ _).run Tryz.prog _ = _ := P.run
      have c1 := P.cell
      have f1 := P.frozen
      have qc := hD3.blk.cell
      have bc := hbx3.cell
      have l1 := hD3.blk.lt
      have l2 := hbx3.lt
      have P' := Lib.hid P
      unfold dcells at c1
      clear P
      go_region
      obtain ⟨X4, n1, n2⟩ := P'.out.dat.dir
      have hbx4 := hbx3.keeps ((Keeps.refl (fun j => va.ownBlock = some j ∨ j = D) W3).trans (((Keeps.refl _ W3).alloc _).drew.trans P'.out.keeps)) (by
        rintro (e | e)
        · have := hOl w.heap.size (.inr (.inr (.inr (.inl e)))); omega
        · have := hOl w.heap.size (.inl e); omega)
      have hD4 := P'.out.dat.blk
      have hE := fun W5 X' => do_end (W5 := W5) (X' := X') (w := w) (by have := hk3.size; simp; omega) ((hk3.alloc _).drew) P'.out hn
      obtain ⟨W4, eW4⟩ : ∃ W4, w'.setCell ⟨D, 5, none⟩ (.slice p5 m5 c5) = W4 := ⟨_, rfl⟩
      rw [eW4] at n1 hbx4 hD4 hE
      rw [eW4]
      have hd8 := does_calls a bd n X4 _ W4.drew ha (map_keeps (S := fun _ => False) n1 ((Keeps.refl _ _).drew) id) n2 (by unfold maxLen; omega)
      unfold DAct.v at hd8
      rw [hq] at hd8
      have nb1 : ¬ w.heap.size = bd := fun e => by have := hOl bd (.inr (.inl rfl)); omega
      have nb2 : ¬ D = bd := fun e => map_ne n1 hD4 e.symm
      have hd8' := Lib.hid hd8
      have hE' := Lib.hid hE
      clear hd8 hE P' e1 c1 f1 eW4
      go_wp2_with fail
      go_region_held3 (fun w' => (∀ i, w'.cell? ⟨w.heap.size, i, none⟩ = (#[.string a.frm, .string a.to, .pointer q] : Array Value)[i]?) ∧ w'.cell? ⟨D, 3, none⟩ = some (.map (some bd))) (first | exact ⟨hbx4.drew.cell, hD4.drew.cell 3⟩ | exact ⟨(hbx4.drew.keeps p3 nb1).cell, (hD4.drew.keeps p3 nb2).cell 3⟩) ((go_at_call 67; with_reducible refine hd8'.out.mono ?_; rintro e w5 ⟨rfl, ⟨X5, p1, p2⟩, p3⟩))
      go_wp2_with fail
      go_ret
      obtain ⟨r1, r2⟩ := hE'.out _ _ p1 p2 ((Keeps.refl _ _).drew.trans p3)
      exact ⟨rfl, r1, r2⟩
    | some f =>
      rw [hdir] at hrun
      unfold ptrV at hrun
      by_cases hf : a.file = some f
      · have hu : k.burn.usedBy a = k.burn.used := by unfold Dk.usedBy; rw [hdir]; simp [hf]
        have hsame := file_same ⟨f, 0, none⟩
        obtain rfl : q = some ⟨f, 0, none⟩ := by rw [hf] at hq; unfold ptrV at hq; simpa using hq.symm
        go_wp2_with fail
        go_quiet (fail)
        rename_i nq
        go_wp2_with fail
        obtain ⟨W3, eW, hD3, hbx3, hk3⟩ : ∃ W3, w2.drewN nq = W3 ∧ Dat W3 B D bd bs n va rows (k.spent a) ∧ Blk W3 w.heap.size 116 #[.string a.frm, .string a.to, .pointer (some ⟨f, 0, none⟩)] ∧ Keeps (dset D bd bs va rows (k.spent a)) w W3 := ⟨_, rfl, hy nq hu, hbx.drewN nq, ((Keeps.of_below B1).trans k2).drewN nq⟩
        rw [eW]
        clear eW qc qf bc hrun h3 h4 hx hy hdat hbx
        have hDd := hD3.keeps (S := fun _ => False) (((Keeps.refl _ W3).alloc (.cells #[.string a.frm, .string a.to, .pointer (some ⟨f, 0, none⟩)] 116)).drew) (fun _ _ => id)
        have hOne : Blk (W3.alloc (.cells #[.string a.frm, .string a.to, .pointer (some ⟨f, 0, none⟩)] 116)).drew W3.heap.size 116 #[.string a.frm, .string a.to, ptrV a.file] := by rw [hq]; exact (Blk.new _ _ _).drew
        obtain ⟨v', w', P⟩ := hDd.push a hOne (by show k.burn.acts.length ≤ 1000000; omega) (by show B ≤ (W3.alloc _).heap.size; have := hk3.size; simp; omega)
        obtain ⟨p5, m5, c5, rfl⟩ := P.shape
        have e1 : (dappOp _ _ _).run Tryz.prog _ = _ := P.run
        have c1 := P.cell
        have f1 := P.frozen
        have qc := hD3.blk.cell
        have bc := hbx3.cell
        have l1 := hD3.blk.lt
        have l2 := hbx3.lt
        have P' := Lib.hid P
        unfold dcells at c1
        clear P
        go_region
        obtain ⟨X4, n1, n2⟩ := P'.out.dat.dir
        have hbx4 := hbx3.keeps ((Keeps.refl (fun j => va.ownBlock = some j ∨ j = D) W3).trans (((Keeps.refl _ W3).alloc _).drew.trans P'.out.keeps)) (by
          rintro (e | e)
          · have := hOl w.heap.size (.inr (.inr (.inr (.inl e)))); omega
          · have := hOl w.heap.size (.inl e); omega)
        have hD4 := P'.out.dat.blk
        have hE := fun W5 X' => do_end (W5 := W5) (X' := X') (w := w) (by have := hk3.size; simp; omega) ((hk3.alloc _).drew) P'.out hn
        obtain ⟨W4, eW4⟩ : ∃ W4, w'.setCell ⟨D, 5, none⟩ (.slice p5 m5 c5) = W4 := ⟨_, rfl⟩
        rw [eW4] at n1 hbx4 hD4 hE
        rw [eW4]
        have hd8 := does_calls a bd n X4 _ W4.drew ha (map_keeps (S := fun _ => False) n1 ((Keeps.refl _ _).drew) id) n2 (by unfold maxLen; omega)
        unfold DAct.v at hd8
        rw [hq] at hd8
        have nb1 : ¬ w.heap.size = bd := fun e => by have := hOl bd (.inr (.inl rfl)); omega
        have nb2 : ¬ D = bd := fun e => map_ne n1 hD4 e.symm
        have hd8' := Lib.hid hd8
        have hE' := Lib.hid hE
        clear hd8 hE P' e1 c1 f1 eW4
        go_wp2_with fail
        go_region_held3 (fun w' => (∀ i, w'.cell? ⟨w.heap.size, i, none⟩ = (#[.string a.frm, .string a.to, .pointer (some ⟨f, 0, none⟩)] : Array Value)[i]?) ∧ w'.cell? ⟨D, 3, none⟩ = some (.map (some bd))) (first | exact ⟨hbx4.drew.cell, hD4.drew.cell 3⟩ | exact ⟨(hbx4.drew.keeps p3 nb1).cell, (hD4.drew.keeps p3 nb2).cell 3⟩) ((go_at_call 67; with_reducible refine hd8'.out.mono ?_; rintro e w5 ⟨rfl, ⟨X5, p1, p2⟩, p3⟩))
        go_wp2_with fail
        go_ret
        obtain ⟨r1, r2⟩ := hE'.out _ _ p1 p2 ((Keeps.refl _ _).drew.trans p3)
        exact ⟨rfl, r1, r2⟩
      · obtain ⟨x, hx0⟩ := Option.isSome_iff_exists.1 (hk.live _ f (by rw [← s1]; exact hdir))
        rw [← s4] at hx0
        have hu : k.burn.usedBy a = k.burn.used - x.data.length := by
          unfold Dk.usedBy; rw [hdir]; simp only [hf, if_false]; unfold Dk.size; rw [hx0]; rfl
        obtain ⟨_, hfb, hfr, _⟩ := hdat.file f x hx0
        have hxl : x.data.length ≤ 16777216000 := by have := hk.small f x (by rw [← s4]; exact hx0); omega
        have hother : ∀ nq, (binOp .neq 97 (.pointer (some ⟨f, 0, none⟩)) (.pointer q)).run Tryz.prog (w2.drewN nq) = .ok (.bool true) (w2.drewN nq) := fun nq => by
          cases hfile : a.file with
          | none => rw [hfile] at hq; unfold ptrV at hq; obtain rfl : q = none := by simpa using hq.symm
                    exact file_nil
          | some p =>
            rw [hfile] at hq hf; unfold ptrV at hq; obtain rfl : q = some ⟨p, 0, none⟩ := by simpa using hq.symm
            obtain ⟨x', hx'⟩ := Option.isSome_iff_exists.1 (hlive p hfile)
            rw [← s4] at hx'
            exact file_other (fun e => hf (by rw [e])) (hfb.drewN nq) ((hdat.file p x' hx').2.1.drewN nq)
        have fc := hfb.cell
        obtain ⟨rp, rc, hrw⟩ := own_slice hfr
        rw [hrw] at fc
        go_wp2_with fail
        go_quiet (fail)
        rename_i nq
        have ho := hother nq
        go_wp2_with fail
        have lD := hdat.blk.lt
        have lf := hfb.lt
        go_region
        go_wp2_with fail
        obtain ⟨W3, eW, hD3, hbx3, hk3⟩ : ∃ W3, (w2.drewN (nq + 1)).setCell ⟨D, 6, none⟩ (.int .i64 (k.used - x.data.length)) = W3 ∧ Dat W3 B D bd bs n va rows (k.spent a) ∧ Blk W3 w.heap.size 116 #[.string a.frm, .string a.to, .pointer q] ∧ Keeps (dset D bd bs va rows (k.spent a)) w W3 := ⟨_, rfl, hx (nq + 1) _ (by rw [hu, s6]), (hbx.drewN (nq + 1)).keeps (Keeps.setCell (S := fun j => j = D) (Keeps.refl _ _) (p := ⟨D, 6, none⟩) (.inl rfl) _) (fun e => by have := hOl D (.inl rfl); omega), (((Keeps.of_below B1).trans k2).drewN (nq + 1)).setCell (p := ⟨D, 6, none⟩) (.inl (.inl rfl)) _⟩
        rw [eW]
        clear eW qc qf bc hrun h3 h4 hx hy hdat hbx
        have hDd := hD3.keeps (S := fun _ => False) (((Keeps.refl _ W3).alloc (.cells #[.string a.frm, .string a.to, .pointer q] 116)).drew) (fun _ _ => id)
        have hOne : Blk (W3.alloc (.cells #[.string a.frm, .string a.to, .pointer q] 116)).drew W3.heap.size 116 #[.string a.frm, .string a.to, ptrV a.file] := by rw [hq]; exact (Blk.new _ _ _).drew
        obtain ⟨v', w', P⟩ := hDd.push a hOne (by show k.burn.acts.length ≤ 1000000; omega) (by show B ≤ (W3.alloc _).heap.size; have := hk3.size; simp; omega)
        obtain ⟨p5, m5, c5, rfl⟩ := P.shape
        have e1 : (dappOp _ _ _).run Tryz.prog _ = _ := P.run
        have c1 := P.cell
        have f1 := P.frozen
        have qc := hD3.blk.cell
        have bc := hbx3.cell
        have l1 := hD3.blk.lt
        have l2 := hbx3.lt
        have P' := Lib.hid P
        unfold dcells at c1
        clear P
        go_region
        obtain ⟨X4, n1, n2⟩ := P'.out.dat.dir
        have hbx4 := hbx3.keeps ((Keeps.refl (fun j => va.ownBlock = some j ∨ j = D) W3).trans (((Keeps.refl _ W3).alloc _).drew.trans P'.out.keeps)) (by
          rintro (e | e)
          · have := hOl w.heap.size (.inr (.inr (.inr (.inl e)))); omega
          · have := hOl w.heap.size (.inl e); omega)
        have hD4 := P'.out.dat.blk
        have hE := fun W5 X' => do_end (W5 := W5) (X' := X') (w := w) (by have := hk3.size; simp; omega) ((hk3.alloc _).drew) P'.out hn
        obtain ⟨W4, eW4⟩ : ∃ W4, w'.setCell ⟨D, 5, none⟩ (.slice p5 m5 c5) = W4 := ⟨_, rfl⟩
        rw [eW4] at n1 hbx4 hD4 hE
        rw [eW4]
        have hd8 := does_calls a bd n X4 _ W4.drew ha (map_keeps (S := fun _ => False) n1 ((Keeps.refl _ _).drew) id) n2 (by unfold maxLen; omega)
        unfold DAct.v at hd8
        rw [hq] at hd8
        have nb1 : ¬ w.heap.size = bd := fun e => by have := hOl bd (.inr (.inl rfl)); omega
        have nb2 : ¬ D = bd := fun e => map_ne n1 hD4 e.symm
        have hd8' := Lib.hid hd8
        have hE' := Lib.hid hE
        clear hd8 hE P' e1 c1 f1 eW4
        go_wp2_with fail
        go_region_held3 (fun w' => (∀ i, w'.cell? ⟨w.heap.size, i, none⟩ = (#[.string a.frm, .string a.to, .pointer q] : Array Value)[i]?) ∧ w'.cell? ⟨D, 3, none⟩ = some (.map (some bd))) (first | exact ⟨hbx4.drew.cell, hD4.drew.cell 3⟩ | exact ⟨(hbx4.drew.keeps p3 nb1).cell, (hD4.drew.keeps p3 nb2).cell 3⟩) ((go_at_call 67; with_reducible refine hd8'.out.mono ?_; rintro e w5 ⟨rfl, ⟨X5, p1, p2⟩, p3⟩))
        go_wp2_with fail
        go_ret
        obtain ⟨r1, r2⟩ := hE'.out _ _ p1 p2 ((Keeps.refl _ _).drew.trans p3)
        exact ⟨rfl, r1, r2⟩
end Go.Proofs.YtabcdodjkfknlaaGreatDoor
namespace Go.Proofs.YtabcdodjkfknlaaGreatDoor
open Go.RowKit Go.Maps
/-- what a call leaves of a disk -/
def Goes (w : World) (B D : Nat) (O : Nat → Prop) (k' : Dk) (w' : World) : Prop := (∃ O', Disk w' B D O' k' ∧ ∀ j, O' j → O j ∨ w.heap.size ≤ j) ∧ Keeps O w w'
theorem Goes.same {w w' : World} {B D : Nat} {O : Nat → Prop} {k : Dk} (h : Disk w' B D O k) (hk : Keeps O w w') : Goes w B D O k w' := ⟨⟨O, h, fun _ h => .inl h⟩, hk⟩
theorem Goes.at {w w1 w' : World} {B D : Nat} {O : Nat → Prop} {k : Dk} (hb : Below w.heap.size w w1) (h : Goes w1 B D O k w') : Goes w B D O k w' := by
  obtain ⟨⟨O', h1, h2⟩, h3⟩ := h
  have := hb.size
  exact ⟨⟨O', h1, fun j hj => (h2 j hj).imp id (fun h => by omega)⟩, (Keeps.of_below hb).trans h3⟩
def Dk.upd (k : Dk) (f : Nat) (x : File) : Dk := { k with file := fun j => if j = f then some x else k.file j }
theorem Dk.upd_live (k : Dk) (f : Nat) (x : File) (p : Nat) (h : (k.file p).isSome = true) : ((k.upd f x).file p).isSome = true := by
  unfold Dk.upd; simp only; split
  · rfl
  · exact h
theorem Dk.ok.upd {k : Dk} (hk : k.ok) (f : Nat) (x : File) (hx : x.data.length ≤ k.room * 65536) : (k.upd f x).ok := by
  refine ⟨hk.cap, hk.fuse, hk.used, fun s p h => k.upd_live f x p (hk.live s p h), fun s p h => k.upd_live f x p (hk.slive s p h), fun a ha => ⟨(hk.acts a ha).1, fun p h => k.upd_live f x p ((hk.acts a ha).2 p h)⟩, fun p y h => ?_⟩
  unfold Dk.upd at h
  simp only at h
  split at h
  · obtain rfl := Option.some.inj h; exact hx
  · exact hk.small p y h
theorem Disk.newfile {w : World} {B D : Nat} {O : Nat → Prop} {k : Dk} (h : Disk w B D O k) (hB : B ≤ w.heap.size) :
    Disk (w.alloc (.cells #[.slice none 0 0, .int .i64 0] 101)) B D (fun j => O j ∨ j = w.heap.size) (k.upd w.heap.size ⟨[], 0⟩) := by
  have hlt := h.lt
  obtain ⟨bd, bs, n, va, rows, hd, hn, rfl⟩ := h
  have hk : Keeps (fun _ => False) w (w.alloc (.cells #[.slice none 0 0, .int .i64 0] 101)) := (Keeps.refl _ w).alloc _
  have h1 := hd.keeps hk (fun _ _ => id)
  have hf : ∀ f x, k.file f = some x → f ≠ w.heap.size := fun f x hf e => by
    have := hd.from_ f (.inr (.inr (.inr (.inr ⟨f, x, hf, .inl rfl⟩))))
    omega
  have hu : ∀ j x, (k.upd w.heap.size ⟨[], 0⟩).file j = some x → (j = w.heap.size ∧ x = ⟨[], 0⟩) ∨ (j ≠ w.heap.size ∧ k.file j = some x) := by
    intro j x hj
    unfold Dk.upd at hj
    simp only at hj
    split at hj
    · rename_i e; exact .inl ⟨e, (Option.some.inj hj).symm⟩
    · rename_i e; exact .inr ⟨e, hj⟩
  refine ⟨bd, bs, n, va, fun j => if j = w.heap.size then .slice none 0 0 else rows j, ⟨h1.blk, h1.dir, h1.safe, h1.two, h1.acts, ?_, ?_, h1.base⟩, hn, ?_⟩
  · intro f x hx
    rcases hu f x hx with ⟨rfl, rfl⟩ | ⟨hne, hx⟩
    · rw [if_pos rfl]
      exact ⟨hB, Blk.new _ _ _, World.ownsRow_nil _ _ _ _, Nat.le_refl _⟩
    · rw [if_neg hne]
      exact h1.file f x hx
  · intro f f' x x' b hx hx' hb hb'
    rcases hu f x hx with ⟨rfl, rfl⟩ | ⟨hne, hx⟩
    · rw [if_pos rfl] at hb; cases hb
    · rcases hu f' x' hx' with ⟨rfl, rfl⟩ | ⟨hne', hx'⟩
      · rw [if_pos rfl] at hb'; cases hb'
      · rw [if_neg hne] at hb
        rw [if_neg hne'] at hb'
        exact h1.apart f f' x x' b hx hx' hb hb'
  · funext j
    refine propext ⟨?_, ?_⟩
    · rintro ((h | h | h | h | ⟨f, x, hx, h⟩) | rfl)
      · exact .inl h
      · exact .inr (.inl h)
      · exact .inr (.inr (.inl h))
      · exact .inr (.inr (.inr (.inl h)))
      · have hne := hf f x hx
        refine .inr (.inr (.inr (.inr ⟨f, x, ?_, ?_⟩)))
        · unfold Dk.upd; simp only; rw [if_neg hne]; exact hx
        · show j = f ∨ (if f = w.heap.size then Value.slice none 0 0 else rows f).ownBlock = some j
          rw [if_neg hne]; exact h
      · refine .inr (.inr (.inr (.inr ⟨w.heap.size, ⟨[], 0⟩, ?_, .inl rfl⟩)))
        unfold Dk.upd; simp
    · rintro (h | h | h | h | ⟨f, x, hx, h⟩)
      · exact .inl (.inl h)
      · exact .inl (.inr (.inl h))
      · exact .inl (.inr (.inr (.inl h)))
      · exact .inl (.inr (.inr (.inr (.inl h))))
      · rcases hu f x hx with ⟨rfl, rfl⟩ | ⟨hne, hx⟩
        · change j = w.heap.size ∨ (if w.heap.size = w.heap.size then Value.slice none 0 0 else rows w.heap.size).ownBlock = some j at h
          rw [if_pos rfl] at h
          rcases h with h | h
          · exact .inr h
          · cases h
        · change j = f ∨ (if f = w.heap.size then Value.slice none 0 0 else rows f).ownBlock = some j at h
          rw [if_neg hne] at h
          exact .inl (.inr (.inr (.inr (.inr ⟨f, x, hx, h⟩))))
def Dk.createE (k : Dk) (s : List UInt8) : Int := if k.findE s = 0 then 3 else if k.findE s = 4 then errDown k.burns else k.findE s
def Dk.created (k : Dk) (f : Nat) (s : ByteArray) : Dk := if k.findE s.data.toList = 4 then (if k.burns then (k.upd f ⟨[], 0⟩).did ⟨⟨#[]⟩, s, some f⟩ else (k.upd f ⟨[], 0⟩).burn) else k
theorem findE_cases (k : Dk) (s : List UInt8) : k.findE s = 0 ∨ k.findE s = 4 ∨ k.findE s = 2 ∨ k.findE s = 6 := by
  unfold Dk.findE Dk.may
  cases k.down <;> cases dName s <;> cases (k.dir s).isSome <;> simp
theorem findE_ok {k : Dk} {s : List UInt8} (h : k.findE s = 0) : k.down = false ∧ dName s = true ∧ ∃ f, k.dir s = some f ∧ k.findF s = some f := by
  unfold Dk.findE at h
  unfold Dk.findF
  unfold Dk.may at h ⊢
  cases hd : k.down <;> cases hn : dName s <;> cases hf : k.dir s <;> simp [hd, hn, hf] at h ⊢
theorem findE_miss {k : Dk} {s : List UInt8} (h : k.findE s = 4) : k.down = false ∧ dName s = true ∧ k.dir s = none := by
  unfold Dk.findE at h
  unfold Dk.may at h
  cases hd : k.down <;> cases hn : dName s <;> cases hf : k.dir s <;> simp [hd, hn, hf] at h ⊢
theorem dName_ne {s : ByteArray} (h : dName s.data.toList = true) : s.toList.isEmpty = false := by
  rw [Lib.toList_data]
  cases hl : s.data.toList with
  | nil => rw [hl] at h; cases h
  | cons a l => rfl
set_option maxHeartbeats 2000000 in
set_option maxRecDepth 100000 in
theorem create_calls (k : Dk) (B D : Nat) (O : Nat → Prop) (s : ByteArray) (w : World) (hd : Disk w B D O k) (hk : k.ok) (hs : s.size ≤ maxLen) (hr : k.room < 4000) (hB : B ≤ w.heap.size) :
    Calls Tryz.prog 70 #[.pointer (some ⟨D, 0, none⟩), .string s] w fun e w' => e = .returned (.int .i64 (k.createE s.data.toList)) ∧ ∃ f, w.heap.size ≤ f ∧ Goes w B D O (k.created f s) w' := by
  have hF := find_calls k B D O s w hd hs
  have hE : k.createE s.data.toList = if k.findE s.data.toList = 0 then 3 else if k.findE s.data.toList = 4 then errDown k.burns else k.findE s.data.toList := rfl
  have hC : ∀ f, k.created f s = if k.findE s.data.toList = 4 then (if k.burns then (k.upd f ⟨[], 0⟩).did ⟨⟨#[]⟩, s, some f⟩ else (k.upd f ⟨[], 0⟩).burn) else k := fun _ => rfl
  rw [hE]
  clear hE
  have hFp : ∃ p, ptrV (k.findF s.data.toList) = .pointer p := by cases k.findF s.data.toList <;> exact ⟨_, rfl⟩
  obtain ⟨p, hp⟩ := hFp
  rw [hp] at hF
  have hF' := Lib.hid hF
  clear hF
  rcases findE_cases k s.data.toList with h | h | h | h
  · rw [h] at hF'
    simp only [h, if_true, if_neg (show ¬ (0 : Int) = 4 by decide)] at hC ⊢
    have hC' := Lib.hid hC
    clear hC
    go_enter Tryz.func70, Tryz.ntmps70
    go_wp2_with fail
    refine hF'.out.mono ?_
    rintro e w1 ⟨rfl, b1⟩
    go_wp2
    go_ret
    exact ⟨rfl, w.heap.size, Nat.le_refl _, by rw [hC'.out]; exact Goes.same (hd.later b1) (.of_below b1)⟩
  · rw [h] at hF'
    simp only [h, if_true, if_neg (show ¬ (4 : Int) = 0 by decide)] at hC ⊢
    have hC' := Lib.hid hC
    clear hC
    go_enter Tryz.func70, Tryz.ntmps70
    go_wp2_with fail
    refine hF'.out.mono ?_
    rintro e w1 ⟨rfl, b1⟩
    have hd1 := hd.later b1
    have hB1 : B ≤ w1.heap.size := by have := b1.size; omega
    have hN := hd1.newfile hB1
    have hD := do_calls (k.upd w1.heap.size ⟨[], 0⟩) B D _ ⟨⟨#[]⟩, s, some w1.heap.size⟩ _ hN
    obtain ⟨bd, bs, n, va, rows, hdat, hn, rfl⟩ := hd1
    obtain ⟨X, h1, h2⟩ := hdat.dir
    have hlen := h1.len Tryz.underlying79 3
    have hsz : Maps.size X ≤ n := h1.size_le
    have qc := hdat.blk.cell
    go_wp2_with fail
    refine (hD (hk.upd _ _ (Nat.zero_le _)) ⟨by show (0 : Nat) ≤ maxLen; decide, hs, ?_⟩ ?_ (by show k.room < 4000; exact hr) (by simp; omega)).mono ?_
    · show true = !s.toList.isEmpty
      rw [dName_ne (findE_miss h).2.1]; rfl
    · rintro p' e
      obtain rfl := Option.some.inj e
      unfold Dk.upd; simp
    · rintro e w2 ⟨rfl, ⟨O', h5, h6⟩, h7⟩
      have hb : (k.upd w1.heap.size ⟨[], 0⟩).burns = k.burns := rfl
      rw [hb] at h5 ⊢
      go_wp2
      go_ret
      refine ⟨rfl, w1.heap.size, b1.size, ?_⟩
      rw [hC'.out]
      refine Goes.at b1 ⟨⟨O', h5, fun j hj => ?_⟩, ?_⟩
      · rcases h6 j hj with (h8 | h8) | h8
        · exact .inl h8
        · exact .inr (by omega)
        · exact .inr (by simp at h8; omega)
      · refine ((Keeps.refl _ w1).alloc _).step h7 fun j hj => ?_
        rcases hj with hj | hj
        · exact .inl hj
        · exact .inr (by omega)
  all_goals
    rw [h] at hF'
    simp only [h, if_neg (show ¬ (2 : Int) = 0 by decide), if_neg (show ¬ (2 : Int) = 4 by decide), if_neg (show ¬ (6 : Int) = 0 by decide), if_neg (show ¬ (6 : Int) = 4 by decide)] at hC ⊢
    have hC' := Lib.hid hC
    clear hC
    go_enter Tryz.func70, Tryz.ntmps70
    go_wp2_with fail
    refine hF'.out.mono ?_
    rintro e w1 ⟨rfl, b1⟩
    go_wp2
    go_ret
    exact ⟨rfl, w.heap.size, Nat.le_refl _, by rw [hC'.out]; exact Goes.same (hd.later b1) (.of_below b1)⟩
end Go.Proofs.YtabcdodjkfknlaaGreatDoor
namespace Go.Proofs.YtabcdodjkfknlaaGreatDoor
open Go.RowKit Go.Maps Go.Shelf
/-- bytes that lie somewhere -/
def Bytes0 (w : World) (v : Value) (l : List UInt8) : Prop := (v = .slice none 0 0 ∧ l = []) ∨ ∃ g o c, v = .slice (some ⟨g, o, none⟩) l.length c ∧ l.length ≤ c ∧ ∀ i x, l[i]? = some x → w.cell? ⟨g, o + i, none⟩ = some (.int .u8 x.toNat)
/-- bytes that lie somewhere, or none of them, anywhere -/
def Bytes (w : World) (v : Value) (l : List UInt8) : Prop := Bytes0 w v l ∨ ∃ a c, v = .slice (some a) 0 c ∧ l = []
theorem bcells_length (l : List UInt8) : (bcells l).length = l.length := by simp [bcells]
theorem bcells_append (l l' : List UInt8) : bcells (l ++ l') = bcells l ++ bcells l' := by simp [bcells]
theorem bcells_get (l : List UInt8) (i : Nat) : (bcells l)[i]? = (l[i]?).map fun x => .int .u8 x.toNat := by simp [bcells]
theorem bcells_one (l : List UInt8) : ∀ u ∈ bcells l, u.oneCell' = true := by
  intro u hu
  unfold bcells at hu
  obtain ⟨x, _, rfl⟩ := List.mem_map.1 hu
  rfl
theorem Bytes0.of_own {w : World} {B : Nat} {v : Value} {l : List UInt8} (h : w.ownsRow B 5 1 v l.length (bcells l)) : Bytes0 w v l := by
  obtain ⟨_, ⟨rfl, h0⟩ | ⟨g, cap, cur, rfl, h1, h2, h3, h4, h5, h6⟩⟩ := id h
  · exact .inl ⟨rfl, List.eq_nil_of_length_eq_zero h0⟩
  · refine .inr ⟨g, 0, cap, rfl, h3, fun i x hx => ?_⟩
    have hi : i < l.length := by
      rcases Nat.lt_or_ge i l.length with h | h
      · exact h
      · rw [List.getElem?_eq_none h] at hx; cases hx
    rw [Nat.zero_add, h.cellAt i (by omega), bcells_get, hx]; rfl
theorem Bytes.of_own {w : World} {B : Nat} {v : Value} {l : List UInt8} (h : w.ownsRow B 5 1 v l.length (bcells l)) : Bytes w v l := .inl (Bytes0.of_own h)
theorem cell_lt {w : World} {g o : Nat} {v : Value} (h : w.cell? ⟨g, o, none⟩ = some v) : g < w.heap.size := by
  rcases Nat.lt_or_ge g w.heap.size with hlt | hge
  · exact hlt
  · unfold World.cell? at h; rw [Array.getElem?_eq_none hge] at h; cases h
theorem Bytes.keepsP {S : Nat → Prop} {w w' : World} {v : Value} {l : List UInt8} (h : Bytes w v l) (hk : Keeps S w w') (hs : ∀ g, v.ownBlock = some g → l ≠ [] → ¬ S g) : Bytes w' v l := by
  rcases h with (h | ⟨g, o, c, rfl, hc, h⟩) | h
  · exact .inl (.inl h)
  · refine .inl (.inr ⟨g, o, c, rfl, hc, fun i x hx => ?_⟩)
    rw [World.cell?_of_block (hk.block g (cell_lt (h i x hx)) (hs g rfl (fun e => by rw [e] at hx; cases hx)))]; exact h i x hx
  · exact .inr h
theorem Bytes.keeps {S : Nat → Prop} {w w' : World} {v : Value} {l : List UInt8} (h : Bytes w v l) (hk : Keeps S w w') (hs : ∀ g, v.ownBlock = some g → ¬ S g) : Bytes w' v l := by
  rcases h with (h | ⟨g, o, c, rfl, hc, h⟩) | h
  · exact .inl (.inl h)
  · exact .inl (.inr ⟨g, o, c, rfl, hc, fun i x hx => by rw [World.cell?_of_block (hk.block g (cell_lt (h i x hx)) (hs g rfl))]; exact h i x hx⟩)
  · exact .inr h
theorem Bytes.later {w w' : World} {v : Value} {l : List UInt8} (h : Bytes w v l) (hb : Below w.heap.size w w') : Bytes w' v l := h.keeps (S := fun _ => False) (.of_below hb) (fun _ _ => id)
theorem Bytes.slice {w : World} {v : Value} {l : List UInt8} (h : Bytes w v l) : ∃ p c, v = .slice p l.length c := by
  rcases h with (⟨rfl, rfl⟩ | ⟨g, o, c, rfl, _, _⟩) | ⟨a, c, rfl, rfl⟩
  · exact ⟨_, _, rfl⟩
  · exact ⟨_, _, rfl⟩
  · exact ⟨_, _, rfl⟩
theorem info_u8 : (Tryz.prog.info? 5).map (fun i => (i.zero, i.size, i.bytes)) = some (some (.int .u8 0), 1, 1) := by kernel_rfl
/-- bytes behind bytes -/
theorem bytes_append {w : World} {B : Nat} {v b : Value} {l l' : List UInt8} (h : w.ownsRow B 5 1 v l.length (bcells l)) (hb : Bytes w b l') (hn : l.length + l'.length ≤ 100000000000) (hB : B ≤ w.heap.size) :
    ∃ v' w', (Builtin.append_ #[43, 43] 43 #[v, b]).run Tryz.prog w = .ok v' w' ∧ w'.ownsRow B 5 1 v' (l ++ l').length (bcells (l ++ l')) ∧ w.grownBy w' v.ownBlock ∧ (v'.ownBlock = v.ownBlock ∨ v'.ownBlock = some w.heap.size) := by
  obtain ⟨i0, hi, hz0, hz1, hz2⟩ := info_parts info_u8
  rcases hb with (⟨rfl, rfl⟩ | ⟨g, o, c, rfl, _, hc⟩) | ⟨a, c, rfl, rfl⟩
  · refine ⟨v, w, run_append_owned_none w B _ _ _ i0 1 Tryz.underlying43 hi v l.length _ h, by simpa using h, ⟨rfl, rfl, rfl, Nat.le_refl _, fun _ _ _ => rfl⟩, .inl rfl⟩
  · obtain ⟨v', w', h2, h3, h4, _, h5⟩ := run_append_own_at (P := Tryz.prog) w B 43 43 5 i0 (.int .u8 0) 1 1 Tryz.underlying43 hi hz0 hz1 hz2 rfl (by decide) v l.length _ h ⟨g, o, none⟩ l'.length c (bcells l') (by rw [bcells_length, Nat.mul_one]) (by
      intro j u hj
      rw [bcells_get] at hj
      cases hx : l'[j]? with
      | none => rw [hx] at hj; cases hj
      | some x =>
        rw [hx] at hj
        obtain rfl := Option.some.inj hj
        rw [Addr.add_lit]
        exact hc j x hx) (bcells_one l') (by unfold maxLen; omega) (by omega) hB
    exact ⟨v', w', h2, by rw [List.length_append, bcells_append]; exact h3, h4, h5⟩
  · obtain ⟨v', w', h2, h3, h4, _, h5⟩ := run_append_own_at (P := Tryz.prog) w B 43 43 5 i0 (.int .u8 0) 1 1 Tryz.underlying43 hi hz0 hz1 hz2 rfl (by decide) v l.length _ h a 0 c [] rfl (fun j u hj => by simp at hj) (fun u hu => by simp at hu) (by unfold maxLen; simp at hn; omega) (by simp at hn; omega) hB
    exact ⟨v', w', h2, by rw [List.append_nil]; simpa using h3, h4, h5⟩
theorem Goes.next {w w1 : World} {B D : Nat} {O : Nat → Prop} {k1 : Dk} (h : Goes w B D O k1 w1) : ∃ O1, Disk w1 B D O1 k1 ∧ ∀ k2 w2, Goes w1 B D O1 k2 w2 → Goes w B D O k2 w2 := by
  obtain ⟨⟨O1, h1, h2⟩, h3⟩ := h
  refine ⟨O1, h1, fun k2 w2 ⟨⟨O2, h4, h5⟩, h6⟩ => ⟨⟨O2, h4, fun j hj => ?_⟩, h3.step h6 h2⟩⟩
  have := h3.size
  rcases h5 j hj with h | h
  · exact h2 j h
  · exact .inr (by omega)
theorem Goes.behind {w w1 w' : World} {B D : Nat} {O : Nat → Prop} {k : Dk} (hk : Keeps O w w1) (h : Goes w1 B D O k w') : Goes w B D O k w' := by
  obtain ⟨⟨O', h1, h2⟩, h3⟩ := h
  have := hk.size
  exact ⟨⟨O', h1, fun j hj => (h2 j hj).imp id (fun h => by omega)⟩, hk.trans h3⟩
/-- a file is turned -/
theorem Disk.refile {w : World} {B D : Nat} {O : Nat → Prop} {k : Dk} (h : Disk w B D O k) {f : Nat} {x : File} (hf : k.file f = some x) : ∃ v, Blk w f 101 #[v, .int .i64 x.safe] ∧ w.ownsRow B 5 1 v x.data.length (bcells x.data) ∧ x.safe ≤ x.data.length ∧ B ≤ f ∧ O f ∧ (∀ j, v.ownBlock = some j → O j) ∧ v.ownBlock ≠ some D ∧ f ≠ D ∧
    ∀ w' v' x', Keeps (fun j => j = f ∨ v.ownBlock = some j) w w' → Blk w' f 101 #[v', .int .i64 x'.safe] → w'.ownsRow B 5 1 v' x'.data.length (bcells x'.data) → (∀ b, v'.ownBlock = some b → v.ownBlock = some b ∨ w.heap.size ≤ b) → x'.safe ≤ x'.data.length → Goes w B D O (k.upd f x') w' := by
  have hlt := h.lt
  obtain ⟨bd, bs, n, va, rows, hd, hn, rfl⟩ := h
  obtain ⟨f1, f2, f3, f4⟩ := hd.file f x hf
  have hOf : dset D bd bs va rows k f := .inr (.inr (.inr (.inr ⟨f, x, hf, .inl rfl⟩)))
  have hOv : ∀ j, (rows f).ownBlock = some j → dset D bd bs va rows k j := fun j hj => .inr (.inr (.inr (.inr ⟨f, x, hf, .inr hj⟩)))
  refine ⟨rows f, f2, f3, f4, f1, hOf, hOv, own_blk_ne f3 hd.blk (by decide), f2.ne_ hd.blk (by decide), ?_⟩
  intro w' v' x' hk hb ho hl hs
  obtain ⟨X, h1, h2⟩ := hd.dir
  obtain ⟨Y, h3, h4⟩ := hd.safe
  have hu : ∀ j y, (k.upd f x').file j = some y → (j = f ∧ y = x') ∨ (j ≠ f ∧ k.file j = some y) := by
    intro j y hj
    unfold Dk.upd at hj
    simp only at hj
    split at hj
    · rename_i e; exact .inl ⟨e, (Option.some.inj hj).symm⟩
    · rename_i e; exact .inr ⟨e, hj⟩
  have hblk : ∀ {j t cs}, Blk w j t cs → t ≠ 101 → t ≠ 5 → Blk w' j t cs := by
    intro j t cs hj n1 n2
    refine hj.keeps hk ?_
    rintro (e | e)
    · exact hj.ne_ f2 n1 e
    · exact own_blk_ne f3 hj (fun e => n2 e.symm) e
  have hmap : ∀ {b n : Nat} {X : DataW Unit}, w.ownsMap Tryz.prog 9 ptrR b n X → w'.ownsMap Tryz.prog 9 ptrR b n X := by
    intro b n X hX
    refine map_keeps hX hk ?_
    rintro (e | e)
    · exact map_ne hX f2 e
    · exact own_map_ne f3 hX e
  have hacts : w'.ownsRow B 116 3 va k.acts.length (acells k.acts) := by
    refine own_keeps hd.acts hk (fun g hg => ?_)
    obtain ⟨_, _, _, r⟩ := hd.row_ne
    obtain ⟨r1, r2⟩ := r f x hf
    rintro (e | e)
    · exact r1 (by rw [hg, e])
    · exact r2 g e hg
  refine ⟨⟨_, ⟨bd, bs, n, va, fun j => if j = f then v' else rows j, ⟨hblk hd.blk (by decide) (by decide), ⟨X, hmap h1, h2⟩, ⟨Y, hmap h3, h4⟩, hd.two, hacts, ?_, ?_, hd.base⟩, hn, rfl⟩, ?_⟩, ?_⟩
  · intro f' y hy
    rcases hu f' y hy with ⟨rfl, rfl⟩ | ⟨hne, hy⟩
    · rw [if_pos rfl]
      exact ⟨f1, hb, ho, hs⟩
    · rw [if_neg hne]
      obtain ⟨g1, g2, g3, g4⟩ := hd.file f' y hy
      refine ⟨g1, g2.keeps hk ?_, own_keeps g3 hk ?_, g4⟩
      · rintro (e | e)
        · exact hne e
        · exact own_blk_ne f3 g2 (by decide) e
      · rintro g hg (e | e)
        · exact own_blk_ne g3 f2 (by decide) (by rw [hg, e])
        · exact hne (hd.apart f' f y x g hy hf hg e)
  · intro f1' f2' y1 y2 b hy1 hy2 hb1 hb2
    have hfar : ∀ f' y, f' ≠ f → k.file f' = some y → v'.ownBlock = some b → (rows f').ownBlock = some b → False := by
      intro f' y hne hy e1 e2
      rcases hl b e1 with e | e
      · exact hne (hd.apart f' f y x b hy hf e2 e)
      · have := hlt b (.inr (.inr (.inr (.inr ⟨f', y, hy, .inr e2⟩)))); omega
    rcases hu f1' y1 hy1 with ⟨rfl, rfl⟩ | ⟨hne1, hz1⟩
    · rw [if_pos rfl] at hb1
      rcases hu f2' y2 hy2 with ⟨rfl, rfl⟩ | ⟨hne2, hy2⟩
      · rfl
      · rw [if_neg hne2] at hb2
        exact (hfar f2' y2 hne2 hy2 hb1 hb2).elim
    · rw [if_neg hne1] at hb1
      rcases hu f2' y2 hy2 with ⟨rfl, rfl⟩ | ⟨hne2, hy2⟩
      · rw [if_pos rfl] at hb2
        exact (hfar f1' y1 hne1 hz1 hb2 hb1).elim
      · rw [if_neg hne2] at hb2
        exact hd.apart f1' f2' y1 y2 b hz1 hy2 hb1 hb2
  · rintro j (h | h | h | h | ⟨f', y, hy, h⟩)
    · exact .inl (.inl h)
    · exact .inl (.inr (.inl h))
    · exact .inl (.inr (.inr (.inl h)))
    · exact .inl (.inr (.inr (.inr (.inl h))))
    · rcases hu f' y hy with ⟨rfl, rfl⟩ | ⟨hne, hy⟩
      · change j = f' ∨ (if f' = f' then v' else rows f').ownBlock = some j at h
        rw [if_pos rfl] at h
        rcases h with rfl | h
        · exact .inl hOf
        · rcases hl j h with e | e
          · exact .inl (hOv j e)
          · exact .inr e
      · change j = f' ∨ (if f' = f then v' else rows f').ownBlock = some j at h
        rw [if_neg hne] at h
        exact .inl (.inr (.inr (.inr (.inr ⟨f', y, hy, h⟩))))
  · refine hk.mono ?_
    rintro j _ (rfl | e)
    · exact hOf
    · exact hOv j e
def Dk.name (k : Dk) (s : List UInt8) : Nat := (k.dir s).getD 0
def Dk.got (k : Dk) (f : Nat) : File := (k.file f).getD ⟨[], 0⟩
theorem findE_got {k : Dk} {s : List UInt8} (hk : k.ok) (h : k.findE s = 0) : k.down = false ∧ dName s = true ∧ k.dir s = some (k.name s) ∧ k.findF s = some (k.name s) ∧ k.file (k.name s) = some (k.got (k.name s)) := by
  obtain ⟨h1, h2, f, h3, h4⟩ := findE_ok h
  have hn : k.name s = f := by unfold Dk.name; rw [h3]; rfl
  obtain ⟨x, hx⟩ := Option.isSome_iff_exists.1 (hk.live s f h3)
  rw [hn]
  refine ⟨h1, h2, h3, h4, ?_⟩
  unfold Dk.got
  rw [hx]; rfl
end Go.Proofs.YtabcdodjkfknlaaGreatDoor
