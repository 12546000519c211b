/- Walk: the program's disk: do. -/
import Derived.Test.YtgclancneohpbaaDW6
import Derived.BigQuiet
import Derived.BigRegion
import Derived.Deep.RegionHeld3
import Derived.LaidEqlPtr
import Derived.Lib.Builder
namespace Go.Proofs.Ytgclancneohpbaa
open Go.RowKit Go.Maps
attribute [local go_sem ↓] dapp_op
def Dk.size (k : Dk) (f : Nat) : Nat := ((k.file f).map fun x => x.data.length).getD 0
def Dk.usedBy (k : Dk) (a : DAct) : Int := match k.dir a.to.data.toList with
  | none => k.used
  | some f => if a.file = some f then k.used else k.used - k.size f
def Dk.noted (k : Dk) (a : DAct) : Dk := { k with acts := k.acts ++ [a], dir := a.does k.dir, room := k.room + 1 }
def Dk.spent (k : Dk) (a : DAct) : Dk := { k.burn with used := k.burn.usedBy a }
def Dk.did (k : Dk) (a : DAct) : Dk := (k.spent a).noted a
/-- what is so of every disk -/
structure Dk.ok (k : Dk) : Prop where
  cap : k.cap ≤ 16777216
  fuse : -1 ≤ k.fuse ∧ k.fuse < 9223372036854775808
  used : -(k.room * 1073741824 : Int) ≤ k.used ∧ k.used ≤ k.room * 1073741824
  live : ∀ s f, k.dir s = some f → (k.file f).isSome = true
  slive : ∀ s f, k.safe s = some f → (k.file f).isSome = true
  acts : ∀ a, a ∈ k.acts → a.ok ∧ ∀ p, a.file = some p → (k.file p).isSome = true
  small : ∀ f x, k.file f = some x → x.data.length ≤ k.room * 65536
theorem burn_same (k : Dk) : k.burn.dir = k.dir ∧ k.burn.safe = k.safe ∧ k.burn.acts = k.acts ∧ k.burn.file = k.file ∧ k.burn.room = k.room ∧ k.burn.used = k.used ∧ k.burn.cap = k.cap ∧ k.burn.slots = k.slots := by
  unfold Dk.burn
  split
  · exact ⟨rfl, rfl, rfl, rfl, rfl, rfl, rfl, rfl⟩
  · split <;> exact ⟨rfl, rfl, rfl, rfl, rfl, rfl, rfl, rfl⟩
theorem info_file : (Try.prog.info? 94).map (fun i => (i.zero, i.size, i.bytes)) = some (some (.agg #[.slice none 0 0, .int .i64 0]), 2, 32) := by kernel_rfl
theorem file_same (a : Addr) (w : World) : (binOp .neq 89 (.pointer (some a)) (.pointer (some a))).run Try.prog w = .ok (.bool false) w := by
  obtain ⟨i0, hi, _, _, _⟩ := info_parts info_file
  exact Lib.run_neq_ptr_same w a Try.underlying89 hi
theorem file_other {w : World} {f p : Nat} {cs cs' : Array Value} {T T' : TypeId} (hne : f ≠ p) (h1 : Blk w f T cs) (h2 : Blk w p T' cs') : (binOp .neq 89 (.pointer (some ⟨f, 0, none⟩)) (.pointer (some ⟨p, 0, none⟩))).run Try.prog w = .ok (.bool true) w := by
  obtain ⟨i0, hi, _, hz, _⟩ := info_parts info_file
  have hsz : i0.size ≠ 0 := by omega
  have hab : (⟨f, 0, none⟩ : Addr) ≠ ⟨p, 0, none⟩ := fun e => hne (congrArg Addr.block e)
  have h : ∀ d : Nat, (Op.equalIn (d + 1) 89 (.pointer (some ⟨f, 0, none⟩)) (.pointer (some ⟨p, 0, none⟩))).run Try.prog w = .ok false w := fun d => by
    simp [Op.equalIn, run_underlying Try.underlying89, sizeOf, typeInfo, hi, hsz, run_sameAddr_other w hab h1 h2]
  simp only [binOp]
  simp [Op.equal, Op.maxDepth, h 9999]
theorem file_nil {w : World} {f : Nat} : (binOp .neq 89 (.pointer (some ⟨f, 0, none⟩)) (.pointer none)).run Try.prog w = .ok (.bool true) w := by
  obtain ⟨i0, hi, _, hz, _⟩ := info_parts info_file
  have h : ∀ d : Nat, (Op.equalIn (d + 1) 89 (.pointer (some ⟨f, 0, none⟩)) (.pointer none)).run Try.prog w = .ok false w := fun d => by
    simp [Op.equalIn, run_underlying Try.underlying89]
  simp only [binOp]
  simp [Op.equal, Op.maxDepth, h 9999]
/-- only the struct is turned -/
theorem Dat.field {w w' : World} {B D bd bs n : Nat} {va : Value} {rows : Nat → Value} {k k' : Dk} (hd : Dat w B D bd bs n va rows k) (hk : Keeps (fun j => j = D) w w') (hb : Blk w' D 88 (dcells k' bd bs va)) (hs : k'.dir = k.dir ∧ k'.safe = k.safe ∧ k'.acts = k.acts ∧ k'.file = k.file ∧ k'.slots = k.slots) :
    Dat w' B D bd bs n va rows k' := by
  obtain ⟨s1, s2, s3, s4, s5⟩ := hs
  obtain ⟨X, h1, h2⟩ := hd.dir
  obtain ⟨Y, h3, h4⟩ := hd.safe
  refine ⟨hb, ⟨X, map_keeps h1 hk (map_ne h1 hd.blk), by rw [s1]; exact h2⟩, ⟨Y, by rw [s5]; exact map_keeps h3 hk (map_ne h3 hd.blk), by rw [s2]; exact h4⟩, hd.two, by rw [s3]; exact own_keeps hd.acts hk (fun g hg e => own_blk_ne hd.acts hd.blk (by decide) (by rw [hg, e])), ?_, by rw [s4]; exact hd.apart, hd.base⟩
  rw [s4]
  intro f x hf
  obtain ⟨f1, f2, f3, f4⟩ := hd.file f x hf
  exact ⟨f1, f2.keeps hk (fun e => f2.ne_ hd.blk (by decide) e), own_keeps f3 hk (fun g hg e => own_blk_ne f3 hd.blk (by decide) (by rw [hg, e])), f4⟩
theorem own_slice {w : World} {B k m : Nat} {e : TypeId} {v : Value} {xs : List Value} (h : w.ownsRow B e k v m xs) : ∃ p c, v = .slice p m c := by
  obtain ⟨_, ⟨h, rfl⟩ | ⟨g, cap, cur, h, _⟩⟩ := h
  · exact ⟨_, _, h⟩
  · exact ⟨_, _, h⟩
theorem own_map_ne {w : World} {B k m b n : Nat} {e : TypeId} {v : Value} {xs : List Value} {X : DataW Unit} (h : w.ownsRow B e k v m xs) (hX : w.ownsMap Try.prog 9 ptrR b n X) : v.ownBlock ≠ some b := by
  intro e
  obtain ⟨_, ⟨rfl, _⟩ | ⟨g, cap, cur, rfl, _, hg, _⟩⟩ := h
  · cases e
  · obtain ⟨es, clock, hb, _⟩ := hX
    obtain rfl : g = b := by simpa [Value.ownBlock] using e
    rw [hg] at hb
    cases hb
/-- only the directory is turned -/
theorem Dat.turn {w w' : World} {B D bd bs n : Nat} {va : Value} {rows : Nat → Value} {k : Dk} (hd : Dat w B D bd bs n va rows k) {X' : DataW Unit} {g : List UInt8 → Option Nat} (hm : w'.ownsMap Try.prog 9 ptrR bd (n + 1) X') (hX : dirIs X' g) (hk : Keeps (fun j => j = bd) w w') :
    Dat w' B D bd bs (n + 1) va rows { k with dir := g } := by
  obtain ⟨X, h1, h2⟩ := hd.dir
  obtain ⟨Y, h3, h4⟩ := hd.safe
  refine ⟨hd.blk.keeps hk (fun e => map_ne h1 hd.blk e.symm), ⟨X', hm, hX⟩, ⟨Y, map_keeps h3 hk (fun e => hd.two e.symm), h4⟩, hd.two, own_keeps hd.acts hk (fun g hg e => own_map_ne hd.acts h1 (by rw [hg, e])), fun f x hf => ?_, hd.apart, hd.base⟩
  obtain ⟨f1, f2, f3, f4⟩ := hd.file f x hf
  exact ⟨f1, f2.keeps hk (fun e => map_ne h1 f2 e.symm), own_keeps f3 hk (fun g hg e => own_map_ne f3 h1 (by rw [hg, e])), f4⟩
theorem do_end {w W3 w' W5 : World} {B D bd bs n o : Nat} {va v' : Value} {rows : Nat → Value} {k : Dk} {a : DAct} {X' : DataW Unit} (hl : w.heap.size ≤ W3.heap.size)
    (hk : Keeps (dset D bd bs va rows k) w W3) (hP : Push W3 B D bd bs n va rows k { k with acts := k.acts ++ [a], room := k.room + 1 } o v' w') (hn : n ≤ k.room ∧ k.slots + k.acts.length ≤ k.room)
    (hm : W5.ownsMap Try.prog 9 ptrR bd (n + 1) X') (hX : dirIs X' (a.does k.dir)) (hK : Keeps (fun j => j = bd) (w'.setCell ⟨D, 5, none⟩ v') W5) :
    (∃ O', Disk W5 B D O' (k.noted a) ∧ ∀ j, O' j → dset D bd bs va rows k j ∨ w.heap.size ≤ j) ∧ Keeps (dset D bd bs va rows k) w W5 := by
  have hd := hP.dat.turn hm hX hK
  refine ⟨⟨_, ⟨bd, bs, n + 1, v', rows, ⟨hd.blk, hd.dir, hd.safe, hd.two, hd.acts, hd.file, hd.apart, hd.base⟩, ⟨by show n + 1 ≤ k.room + 1; omega, by show k.slots + (k.acts ++ [a]).length ≤ k.room + 1; simp; omega⟩, rfl⟩, ?_⟩, (hk.trans (hP.keeps.mono ?_)).trans (hK.mono ?_)⟩
  · rintro j (h | h | h | h | h)
    · exact .inl (.inl h)
    · exact .inl (.inr (.inl h))
    · exact .inl (.inr (.inr (.inl h)))
    · rcases hP.lies with e | e
      · exact .inl (.inr (.inr (.inr (.inl (by rw [← e]; exact h)))))
      · rw [e] at h
        obtain rfl := Option.some.inj h
        exact .inr hl
    · exact .inl (.inr (.inr (.inr (.inr h))))
  · rintro j _ (e | e)
    · exact .inr (.inr (.inr (.inl e)))
    · exact .inl e
  · rintro j _ e
    exact .inr (.inl e)
set_option maxHeartbeats 4000000 in
set_option maxRecDepth 100000 in
theorem do_calls (k : Dk) (B D : Nat) (O : Nat → Prop) (a : DAct) (w : World) (hd : Disk w B D O k) (hk : k.ok) (ha : a.ok) (hlive : ∀ p, a.file = some p → (k.file p).isSome = true) (hr : k.room < 4000) (hB : B ≤ w.heap.size) :
    Calls Try.prog 47 #[.pointer (some ⟨D, 0, none⟩), a.v] w fun e w' => e = .returned (.int .i64 (errDown k.burns)) ∧ (∃ O', Disk w' B D O' (if k.burns then k.did a else k.burn) ∧ ∀ j, O' j → O j ∨ w.heap.size ≤ j) ∧ Keeps O w w' := by
  have hOl := hd.lt
  have B1 := (Below.refl w.heap.size w).alloc (Nat.le_refl _) (.cells #[.string a.frm, .string a.to, ptrV a.file] 96)
  have hd1 := hd.later B1
  have hC := burn_calls k B D O _ hd1 hk.fuse
  have hC' := Lib.hid hC
  have bx := Blk.new w 96 #[.string a.frm, .string a.to, ptrV a.file]
  clear hC
  have hpv : ∃ q, ptrV a.file = .pointer q := by cases a.file <;> exact ⟨_, rfl⟩
  obtain ⟨q, hq⟩ := hpv
  unfold DAct.v
  rw [hq] at hC' bx B1 ⊢
  cases hbn : k.burns
  · rw [hbn] at hC'
    go_enter Try.func47, Try.ntmps47
    go_wp2_with fail
    refine hC'.out.mono ?_
    rintro e w2 ⟨rfl, h2, k2⟩
    unfold errDown
    go_wp2
    go_ret
    exact ⟨rfl, ⟨O, h2, fun j hj => .inl hj⟩, (Keeps.of_below B1).trans k2⟩
  · rw [hbn] at hC'
    go_enter Try.func47, Try.ntmps47
    go_wp2_with fail
    refine hC'.out.mono ?_
    rintro e w2 ⟨rfl, h2, k2⟩
    have hbx := bx.keeps k2 (fun e => by have := hOl _ e; omega)
    obtain ⟨bd, bs, n, va, rows, hdat, hn, rfl⟩ := h2
    obtain ⟨X, h3, h4⟩ := hdat.dir
    have hrun : ∀ nq, (Instr.lookup 85 (.map (some bd)) (.string a.to) false).run Try.prog (w2.drewN nq) = .ok (ptrV (k.burn.dir a.to.data.toList)) (w2.drewN nq) := fun nq => dir_run (map_keeps (S := fun _ => False) h3 ((Keeps.refl _ _).drewN nq) id) h4 ha.to
    have qc := hdat.blk.cell
    have qf := hdat.blk.frozen
    have bc := hbx.cell
    obtain ⟨s1, s2, s3, s4, s5, s6, s7, s8⟩ := burn_same k
    have hacts : k.burn.acts.length ≤ 100000 := by have := hn.2; rw [s5] at this; omega
    have hus : -1000000000000000000 ≤ k.used ∧ k.used ≤ 1000000000000000000 := by have := hk.used; omega
    unfold errDown
    clear hC' bx hd1 hd
    have hx : ∀ (nq : Nat) (x : Int), x = k.burn.usedBy a → Dat ((w2.drewN nq).setCell ⟨D, 6, none⟩ (.int .i64 x)) B D bd bs n va rows (k.spent a) := fun nq x hx => by
      subst hx
      have h0 := hdat.keeps (S := fun _ => False) ((Keeps.refl _ _).drewN nq) (fun _ _ => id)
      exact h0.field (Keeps.setCell (S := fun j => j = D) (Keeps.refl _ _) (p := ⟨D, 6, none⟩) (.inl rfl) _) (h0.blk.set_ 6 _) ⟨rfl, rfl, rfl, rfl, rfl⟩
    have hy : ∀ nq : Nat, k.burn.usedBy a = k.burn.used → Dat (w2.drewN nq) B D bd bs n va rows (k.spent a) := fun nq hu => by
      have e : k.spent a = k.burn := by unfold Dk.spent; rw [hu]
      rw [e]
      exact hdat.keeps (S := fun _ => False) ((Keeps.refl _ _).drewN nq) (fun _ _ => id)
    cases hdir : k.burn.dir a.to.data.toList with
    | none =>
      have hu : k.burn.usedBy a = k.burn.used := by unfold Dk.usedBy; rw [hdir]
      rw [hdir] at hrun
      unfold ptrV at hrun
      go_wp2_with fail
      go_quiet (fail)
      rename_i nq
      go_wp2_with fail
      obtain ⟨W3, eW, hD3, hbx3, hk3⟩ : ∃ W3, w2.drewN nq = W3 ∧ Dat W3 B D bd bs n va rows (k.spent a) ∧ Blk W3 w.heap.size 96 #[.string a.frm, .string a.to, .pointer q] ∧ Keeps (dset D bd bs va rows (k.spent a)) w W3 := ⟨_, rfl, hy nq hu, hbx.drewN nq, ((Keeps.of_below B1).trans k2).drewN nq⟩
      rw [eW]
      clear eW qc qf bc hrun h3 h4 hx hy hdat hbx
      have hDd := hD3.keeps (S := fun _ => False) (((Keeps.refl _ W3).alloc (.cells #[.string a.frm, .string a.to, .pointer q] 96)).drew) (fun _ _ => id)
      have hOne : Blk (W3.alloc (.cells #[.string a.frm, .string a.to, .pointer q] 96)).drew W3.heap.size 96 #[.string a.frm, .string a.to, ptrV a.file] := by rw [hq]; exact (Blk.new _ _ _).drew
      obtain ⟨v', w', P⟩ := hDd.push a hOne (by show k.burn.acts.length ≤ 1000000; omega) (by show B ≤ (W3.alloc _).heap.size; have := hk3.size; simp; omega)
      obtain ⟨p5, m5, c5, rfl⟩ := P.shape
      have e1 : (dappOp _ _ _).run Try.prog _ = _ := P.run
      have c1 := P.cell
      have f1 := P.frozen
      have qc := hD3.blk.cell
      have bc := hbx3.cell
      have l1 := hD3.blk.lt
      have l2 := hbx3.lt
      have P' := Lib.hid P
      unfold dcells at c1
      clear P
      go_region
      obtain ⟨X4, n1, n2⟩ := P'.out.dat.dir
      have hbx4 := hbx3.keeps ((Keeps.refl (fun j => va.ownBlock = some j ∨ j = D) W3).trans (((Keeps.refl _ W3).alloc _).drew.trans P'.out.keeps)) (by
        rintro (e | e)
        · have := hOl w.heap.size (.inr (.inr (.inr (.inl e)))); omega
        · have := hOl w.heap.size (.inl e); omega)
      have hD4 := P'.out.dat.blk
      have hE := fun W5 X' => do_end (W5 := W5) (X' := X') (w := w) (by have := hk3.size; simp; omega) ((hk3.alloc _).drew) P'.out hn
      obtain ⟨W4, eW4⟩ : ∃ W4, w'.setCell ⟨D, 5, none⟩ (.slice p5 m5 c5) = W4 := ⟨_, rfl⟩
      rw [eW4] at n1 hbx4 hD4 hE
      rw [eW4]
      have hd8 := does_calls a bd n X4 _ W4.drew ha (map_keeps (S := fun _ => False) n1 ((Keeps.refl _ _).drew) id) n2 (by unfold maxLen; omega)
      unfold DAct.v at hd8
      rw [hq] at hd8
      have nb1 : ¬ w.heap.size = bd := fun e => by have := hOl bd (.inr (.inl rfl)); omega
      have nb2 : ¬ D = bd := fun e => map_ne n1 hD4 e.symm
      have hd8' := Lib.hid hd8
      have hE' := Lib.hid hE
      clear hd8 hE P' e1 c1 f1 eW4
      go_wp2_with fail
      go_region_held3 (fun w' => (∀ i, w'.cell? ⟨w.heap.size, i, none⟩ = (#[.string a.frm, .string a.to, .pointer q] : Array Value)[i]?) ∧ w'.cell? ⟨D, 3, none⟩ = some (.map (some bd))) (first | exact ⟨hbx4.drew.cell, hD4.drew.cell 3⟩ | exact ⟨(hbx4.drew.keeps p3 nb1).cell, (hD4.drew.keeps p3 nb2).cell 3⟩) ((go_at_call 51; with_reducible refine hd8'.out.mono ?_; rintro e w5 ⟨rfl, ⟨X5, p1, p2⟩, p3⟩))
      go_wp2_with fail
      go_ret
      obtain ⟨r1, r2⟩ := hE'.out _ _ p1 p2 ((Keeps.refl _ _).drew.trans p3)
      exact ⟨rfl, r1, r2⟩
    | some f =>
      rw [hdir] at hrun
      unfold ptrV at hrun
      by_cases hf : a.file = some f
      · have hu : k.burn.usedBy a = k.burn.used := by unfold Dk.usedBy; rw [hdir]; simp [hf]
        have hsame := file_same ⟨f, 0, none⟩
        obtain rfl : q = some ⟨f, 0, none⟩ := by rw [hf] at hq; unfold ptrV at hq; simpa using hq.symm
        go_wp2_with fail
        go_quiet (fail)
        rename_i nq
        go_wp2_with fail
        obtain ⟨W3, eW, hD3, hbx3, hk3⟩ : ∃ W3, w2.drewN nq = W3 ∧ Dat W3 B D bd bs n va rows (k.spent a) ∧ Blk W3 w.heap.size 96 #[.string a.frm, .string a.to, .pointer (some ⟨f, 0, none⟩)] ∧ Keeps (dset D bd bs va rows (k.spent a)) w W3 := ⟨_, rfl, hy nq hu, hbx.drewN nq, ((Keeps.of_below B1).trans k2).drewN nq⟩
        rw [eW]
        clear eW qc qf bc hrun h3 h4 hx hy hdat hbx
        have hDd := hD3.keeps (S := fun _ => False) (((Keeps.refl _ W3).alloc (.cells #[.string a.frm, .string a.to, .pointer (some ⟨f, 0, none⟩)] 96)).drew) (fun _ _ => id)
        have hOne : Blk (W3.alloc (.cells #[.string a.frm, .string a.to, .pointer (some ⟨f, 0, none⟩)] 96)).drew W3.heap.size 96 #[.string a.frm, .string a.to, ptrV a.file] := by rw [hq]; exact (Blk.new _ _ _).drew
        obtain ⟨v', w', P⟩ := hDd.push a hOne (by show k.burn.acts.length ≤ 1000000; omega) (by show B ≤ (W3.alloc _).heap.size; have := hk3.size; simp; omega)
        obtain ⟨p5, m5, c5, rfl⟩ := P.shape
        have e1 : (dappOp _ _ _).run Try.prog _ = _ := P.run
        have c1 := P.cell
        have f1 := P.frozen
        have qc := hD3.blk.cell
        have bc := hbx3.cell
        have l1 := hD3.blk.lt
        have l2 := hbx3.lt
        have P' := Lib.hid P
        unfold dcells at c1
        clear P
        go_region
        obtain ⟨X4, n1, n2⟩ := P'.out.dat.dir
        have hbx4 := hbx3.keeps ((Keeps.refl (fun j => va.ownBlock = some j ∨ j = D) W3).trans (((Keeps.refl _ W3).alloc _).drew.trans P'.out.keeps)) (by
          rintro (e | e)
          · have := hOl w.heap.size (.inr (.inr (.inr (.inl e)))); omega
          · have := hOl w.heap.size (.inl e); omega)
        have hD4 := P'.out.dat.blk
        have hE := fun W5 X' => do_end (W5 := W5) (X' := X') (w := w) (by have := hk3.size; simp; omega) ((hk3.alloc _).drew) P'.out hn
        obtain ⟨W4, eW4⟩ : ∃ W4, w'.setCell ⟨D, 5, none⟩ (.slice p5 m5 c5) = W4 := ⟨_, rfl⟩
        rw [eW4] at n1 hbx4 hD4 hE
        rw [eW4]
        have hd8 := does_calls a bd n X4 _ W4.drew ha (map_keeps (S := fun _ => False) n1 ((Keeps.refl _ _).drew) id) n2 (by unfold maxLen; omega)
        unfold DAct.v at hd8
        rw [hq] at hd8
        have nb1 : ¬ w.heap.size = bd := fun e => by have := hOl bd (.inr (.inl rfl)); omega
        have nb2 : ¬ D = bd := fun e => map_ne n1 hD4 e.symm
        have hd8' := Lib.hid hd8
        have hE' := Lib.hid hE
        clear hd8 hE P' e1 c1 f1 eW4
        go_wp2_with fail
        go_region_held3 (fun w' => (∀ i, w'.cell? ⟨w.heap.size, i, none⟩ = (#[.string a.frm, .string a.to, .pointer (some ⟨f, 0, none⟩)] : Array Value)[i]?) ∧ w'.cell? ⟨D, 3, none⟩ = some (.map (some bd))) (first | exact ⟨hbx4.drew.cell, hD4.drew.cell 3⟩ | exact ⟨(hbx4.drew.keeps p3 nb1).cell, (hD4.drew.keeps p3 nb2).cell 3⟩) ((go_at_call 51; with_reducible refine hd8'.out.mono ?_; rintro e w5 ⟨rfl, ⟨X5, p1, p2⟩, p3⟩))
        go_wp2_with fail
        go_ret
        obtain ⟨r1, r2⟩ := hE'.out _ _ p1 p2 ((Keeps.refl _ _).drew.trans p3)
        exact ⟨rfl, r1, r2⟩
      · obtain ⟨x, hx0⟩ := Option.isSome_iff_exists.1 (hk.live _ f (by rw [← s1]; exact hdir))
        rw [← s4] at hx0
        have hu : k.burn.usedBy a = k.burn.used - x.data.length := by
          unfold Dk.usedBy; rw [hdir]; simp only [hf, if_false]; unfold Dk.size; rw [hx0]; rfl
        obtain ⟨_, hfb, hfr, _⟩ := hdat.file f x hx0
        have hxl : x.data.length ≤ 16777216000 := by have := hk.small f x (by rw [← s4]; exact hx0); omega
        have hother : ∀ nq, (binOp .neq 89 (.pointer (some ⟨f, 0, none⟩)) (.pointer q)).run Try.prog (w2.drewN nq) = .ok (.bool true) (w2.drewN nq) := fun nq => by
          cases hfile : a.file with
          | none => rw [hfile] at hq; unfold ptrV at hq; obtain rfl : q = none := by simpa using hq.symm
                    exact file_nil
          | some p =>
            rw [hfile] at hq hf; unfold ptrV at hq; obtain rfl : q = some ⟨p, 0, none⟩ := by simpa using hq.symm
            obtain ⟨x', hx'⟩ := Option.isSome_iff_exists.1 (hlive p hfile)
            rw [← s4] at hx'
            exact file_other (fun e => hf (by rw [e])) (hfb.drewN nq) ((hdat.file p x' hx').2.1.drewN nq)
        have fc := hfb.cell
        obtain ⟨rp, rc, hrw⟩ := own_slice hfr
        rw [hrw] at fc
        go_wp2_with fail
        go_quiet (fail)
        rename_i nq
        have ho := hother nq
        go_wp2_with fail
        have lD := hdat.blk.lt
        have lf := hfb.lt
        go_region
        go_wp2_with fail
        obtain ⟨W3, eW, hD3, hbx3, hk3⟩ : ∃ W3, (w2.drewN (nq + 1)).setCell ⟨D, 6, none⟩ (.int .i64 (k.used - x.data.length)) = W3 ∧ Dat W3 B D bd bs n va rows (k.spent a) ∧ Blk W3 w.heap.size 96 #[.string a.frm, .string a.to, .pointer q] ∧ Keeps (dset D bd bs va rows (k.spent a)) w W3 := ⟨_, rfl, hx (nq + 1) _ (by rw [hu, s6]), (hbx.drewN (nq + 1)).keeps (Keeps.setCell (S := fun j => j = D) (Keeps.refl _ _) (p := ⟨D, 6, none⟩) (.inl rfl) _) (fun e => by have := hOl D (.inl rfl); omega), (((Keeps.of_below B1).trans k2).drewN (nq + 1)).setCell (p := ⟨D, 6, none⟩) (.inl (.inl rfl)) _⟩
        rw [eW]
        clear eW qc qf bc hrun h3 h4 hx hy hdat hbx
        have hDd := hD3.keeps (S := fun _ => False) (((Keeps.refl _ W3).alloc (.cells #[.string a.frm, .string a.to, .pointer q] 96)).drew) (fun _ _ => id)
        have hOne : Blk (W3.alloc (.cells #[.string a.frm, .string a.to, .pointer q] 96)).drew W3.heap.size 96 #[.string a.frm, .string a.to, ptrV a.file] := by rw [hq]; exact (Blk.new _ _ _).drew
        obtain ⟨v', w', P⟩ := hDd.push a hOne (by show k.burn.acts.length ≤ 1000000; omega) (by show B ≤ (W3.alloc _).heap.size; have := hk3.size; simp; omega)
        obtain ⟨p5, m5, c5, rfl⟩ := P.shape
        have e1 : (dappOp _ _ _).run Try.prog _ = _ := P.run
        have c1 := P.cell
        have f1 := P.frozen
        have qc := hD3.blk.cell
        have bc := hbx3.cell
        have l1 := hD3.blk.lt
        have l2 := hbx3.lt
        have P' := Lib.hid P
        unfold dcells at c1
        clear P
        go_region
        obtain ⟨X4, n1, n2⟩ := P'.out.dat.dir
        have hbx4 := hbx3.keeps ((Keeps.refl (fun j => va.ownBlock = some j ∨ j = D) W3).trans (((Keeps.refl _ W3).alloc _).drew.trans P'.out.keeps)) (by
          rintro (e | e)
          · have := hOl w.heap.size (.inr (.inr (.inr (.inl e)))); omega
          · have := hOl w.heap.size (.inl e); omega)
        have hD4 := P'.out.dat.blk
        have hE := fun W5 X' => do_end (W5 := W5) (X' := X') (w := w) (by have := hk3.size; simp; omega) ((hk3.alloc _).drew) P'.out hn
        obtain ⟨W4, eW4⟩ : ∃ W4, w'.setCell ⟨D, 5, none⟩ (.slice p5 m5 c5) = W4 := ⟨_, rfl⟩
        rw [eW4] at n1 hbx4 hD4 hE
        rw [eW4]
        have hd8 := does_calls a bd n X4 _ W4.drew ha (map_keeps (S := fun _ => False) n1 ((Keeps.refl _ _).drew) id) n2 (by unfold maxLen; omega)
        unfold DAct.v at hd8
        rw [hq] at hd8
        have nb1 : ¬ w.heap.size = bd := fun e => by have := hOl bd (.inr (.inl rfl)); omega
        have nb2 : ¬ D = bd := fun e => map_ne n1 hD4 e.symm
        have hd8' := Lib.hid hd8
        have hE' := Lib.hid hE
        clear hd8 hE P' e1 c1 f1 eW4
        go_wp2_with fail
        go_region_held3 (fun w' => (∀ i, w'.cell? ⟨w.heap.size, i, none⟩ = (#[.string a.frm, .string a.to, .pointer q] : Array Value)[i]?) ∧ w'.cell? ⟨D, 3, none⟩ = some (.map (some bd))) (first | exact ⟨hbx4.drew.cell, hD4.drew.cell 3⟩ | exact ⟨(hbx4.drew.keeps p3 nb1).cell, (hD4.drew.keeps p3 nb2).cell 3⟩) ((go_at_call 51; with_reducible refine hd8'.out.mono ?_; rintro e w5 ⟨rfl, ⟨X5, p1, p2⟩, p3⟩))
        go_wp2_with fail
        go_ret
        obtain ⟨r1, r2⟩ := hE'.out _ _ p1 p2 ((Keeps.refl _ _).drew.trans p3)
        exact ⟨rfl, r1, r2⟩
end Go.Proofs.Ytgclancneohpbaa
