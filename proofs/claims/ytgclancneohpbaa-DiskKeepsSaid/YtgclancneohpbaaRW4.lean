/- Walks: the document's disk: act. -/
import Derived.Test.YtgclancneohpbaaRW3
namespace Go.Proofs.Ytgclancneohpbaa
open Go.RowKit Go.Maps Go.Shelf
attribute [local go_sem ↓] dapp_op
theorem info_ract : (Try.prog.info? 120).map (fun i => (i.zero, i.size, i.bytes)) = some (some (.agg #[.string ⟨#[]⟩, .string ⟨#[]⟩, .int .i64 0]), 3, 40) := by kernel_rfl
theorem racells_app (d e : List RAct) : racells (d ++ e) = racells d ++ racells e := by unfold racells; rw [List.flatMap_append]
section
variable {w w' : World} {B g : Nat} {vF vD vS vA : Value} {dv : List Value} {r : RD}
/-- what is left when an act is put behind the others -/
structure APush (w : World) (B g : Nat) (vF vD vS vA : Value) (dv : List Value) (r : RD) (a : RAct) (o : Nat) (p : Option Addr) (c : Nat) (w' : World) : Prop where
  run : (dappOp #[104, 104] 104 #[vA, .slice (some ⟨o, 0, none⟩) 1 1]).run Try.prog w = .ok (.slice p (r.acts.length + 1) c) w'
  blk : Blk w' g 106 #[.int .i64 r.cap, .bool r.down, .int .i64 r.left, vF, vD, vS, vA]
  dat : RDat (w'.setCell ⟨g, 6, none⟩ (.slice p (r.acts.length + 1) c)) B g vF vD vS (.slice p (r.acts.length + 1) c) dv { r with acts := r.acts ++ [a] }
  lies : ∀ j, (Value.slice p (r.acts.length + 1) c).ownBlock = some j → vA.ownBlock = some j ∨ w.heap.size ≤ j
  keeps : Keeps (fun j => vA.ownBlock = some j) w w'
theorem RDat.apush (h : RDat w B g vF vD vS vA dv r) (a : RAct) (hl : r.acts.length ≤ 1000000) {o : Nat} (ho : Blk w o 120 #[strV a.frm, strV a.to, .int .i64 a.file]) : ∃ p c w', APush w B g vF vD vS vA dv r a o p c w' := by
  have hB : B ≤ w.heap.size := by have := (h.lt g (.inl rfl)); omega
  obtain ⟨i0, hi, hz0, hz1, hz2⟩ := info_parts info_ract
  obtain ⟨v', w', h2, h3, h4, _, h5⟩ := run_append_own_at (P := Try.prog) w B 104 104 120 i0 (.agg #[.string ⟨#[]⟩, .string ⟨#[]⟩, .int .i64 0]) 3 40 Try.underlying104 hi hz0 hz1 hz2 rfl (by decide) vA r.acts.length _ h.rest.acts ⟨o, 0, none⟩ 1 1 [strV a.frm, strV a.to, .int .i64 a.file] rfl (by
      intro j u hj
      rw [addr_at, ho.cell j, ← hj]
      simp) (by
      intro u hu
      simp at hu
      rcases hu with rfl | rfl | rfl <;> rfl) (by unfold maxLen; omega) (by omega) hB
  obtain ⟨p, c, rfl⟩ := own_slice h3
  have hk : Keeps (fun j => vA.ownBlock = some j) w w' := (Keeps.refl _ w).grown h4 (fun k e => .inl e)
  have hg := h.far
  have hb := h.blk.keeps hk hg.2.1
  have hlies : ∀ j, (Value.slice p (r.acts.length + 1) c).ownBlock = some j → vA.ownBlock = some j ∨ w.heap.size ≤ j := by
    intro j hj
    rcases h5 with e | e
    · exact .inl (e.symm.trans hj)
    · rw [hj] at e; exact .inr (by have := Option.some.inj e; omega)
  have hr : RRest w' B vF vD vS (.slice p (r.acts.length + 1) c) dv r.files r.dir r.safe (r.acts ++ [a]) := by
    have hoF := fun j (e : vA.ownBlock = some j) => h.farA e
    refine ⟨own_keeps h.rest.files hk fun j hj e => (hoF j e).2.1 hj, h.rest.len, fun i x hx => ?_, h.rest.dir.keeps hk fun j hj e => (hoF j e).2.2.1 hj, h.rest.safe.keeps hk fun j hj e => (hoF j e).2.2.2.1 hj, ?_⟩
    · obtain ⟨u, h1, h2⟩ := h.rest.data i x hx
      exact ⟨u, h1, RowAt.keeps h2 hk fun j hj e => (hoF j e).2.2.2.2 u (List.mem_of_getElem? h1) hj⟩
    · rw [racells_app, List.length_append]; exact h3
  refine ⟨p, c, w', ⟨h2, hb, ⟨hb.set_ 6 _, hr.keeps (S := fun j => j = g) (kset _ g 6 _) (fun j e => ?_), fun j hj => ?_⟩, hlies, hk⟩⟩
  · obtain rfl := e
    exact hr.far hb (by decide)
  · rcases hj with e | e | e | e | e | e
    · exact h.low j (.inl e)
    · exact h.low j (.inr (.inl e))
    · rcases hlies j e with e | e
      · exact h.low j (.inr (.inr (.inl e)))
      · omega
    · exact h.low j (.inr (.inr (.inr (.inl e))))
    · exact h.low j (.inr (.inr (.inr (.inr (.inl e)))))
    · exact h.low j (.inr (.inr (.inr (.inr (.inr e)))))
/-- another directory -/
theorem RDat.redir (h : RDat w B g vF vD vS vA dv r) {v : Value} {R : RDir} (hd : DirAt w v R) (hv : ∀ j, v.ownBlock = some j → B ≤ j) : RDat (w.setCell ⟨g, 4, none⟩ v) B g vF v vS vA dv { r with dir := R } := by
  have hr := h.rest_set 4 v
  refine ⟨h.blk.set_ 4 _, ⟨hr.files, hr.len, hr.data, hd.keeps (S := fun j => j = g) (kset _ g 4 _) fun j hj e => ?_, hr.safe, hr.acts⟩, fun j hj => ?_⟩
  · obtain rfl := e
    obtain ⟨c, h1⟩ := RowAt.blk hd j hj; exact h1.ne_ h.blk (by decide) rfl
  · rcases hj with e | e | e | e | e | e
    · exact h.low j (.inl e)
    · exact h.low j (.inr (.inl e))
    · exact h.low j (.inr (.inr (.inl e)))
    · exact hv j e
    · exact h.low j (.inr (.inr (.inr (.inr (.inl e)))))
    · exact h.low j (.inr (.inr (.inr (.inr (.inr e)))))
end
/-- what act leaves of a disk -/
def Acted (w : World) (B g : Nat) (vF vD vS vA : Value) (dv : List Value) (r' : RD) (w' : World) : Prop := ∃ vD' vA', RDat w' B g vF vD' vS vA' dv r' ∧ (∀ j, vD'.ownBlock = some j → vD.ownBlock = some j ∨ w.heap.size ≤ j) ∧ (∀ j, vA'.ownBlock = some j → vA.ownBlock = some j ∨ w.heap.size ≤ j) ∧ Keeps (fun j => j = g ∨ vA.ownBlock = some j) w w'
set_option maxHeartbeats 4000000 in
set_option maxRecDepth 100000 in
theorem ract_calls (r : RD) (B g : Nat) (vF vD vS vA : Value) (dv : List Value) (a b : ByteArray) (i : Nat) (w : World) (hd : RDat w B g vF vD vS vA dv r) (hf : -1 ≤ r.left ∧ r.left < 9223372036854775808) (hl1 : r.dir.length ≤ 40000) (hl2 : r.acts.length ≤ 1000000) :
    Calls Try.prog 71 #[.pointer (some ⟨g, 0, none⟩), .agg #[.string a, .string b, .int .i64 i]] w fun e w' => e = .returned (.int .i64 (errDown r.burns)) ∧ Acted w B g vF vD vS vA dv (if r.burns then r.act ⟨a.data.toList, b.data.toList, i⟩ else r.burn) w' := by
  have hgl := hd.blk.lt
  have hOl := hd.lt
  have B1 := (Below.refl w.heap.size w).alloc (Nat.le_refl _) (.cells #[.string a, .string b, .int .i64 i] 120)
  have hC := rburn_calls r B g vF vD vS vA dv _ (hd.later B1) hf
  have bx := Blk.new w 120 #[.string a, .string b, .int .i64 i]
  cases hbn : r.burns
  · rw [hbn] at hC
    have hC' := Lib.hid hC
    rw [if_neg (by decide)]
    clear hC
    go_enter Try.func71, Try.ntmps71
    go_wp2_with fail
    refine hC'.out.mono ?_
    rintro e w2 ⟨rfl, h2, k2⟩
    go_wp2
    go_ret
    exact ⟨rfl, vD, vA, h2, fun j hj => .inl hj, fun j hj => .inl hj, (Keeps.of_below B1).trans (k2.mono fun j _ e => .inl e)⟩
  · rw [hbn] at hC
    have hC' := Lib.hid hC
    rw [if_pos rfl]
    have hact : r.act ⟨a.data.toList, b.data.toList, i⟩ = { r.burn with acts := r.burn.acts ++ [⟨a.data.toList, b.data.toList, i⟩], dir := rdone r.burn.dir ⟨a.data.toList, b.data.toList, i⟩ } := rfl
    rw [hact]
    clear hC hact
    go_enter Try.func71, Try.ntmps71
    go_wp2_with fail
    refine hC'.out.mono ?_
    rintro e w2 ⟨rfl, h2, k2⟩
    have hK2 : Keeps (fun j => j = g ∨ vA.ownBlock = some j) w w2 := (Keeps.of_below B1).trans (k2.mono fun j _ e => .inl e)
    have hbx := bx.keeps k2 (by omega)
    have z2 := k2.size
    simp only [World.size_alloc] at z2
    have qc := h2.blk.cell
    have qf := h2.blk.frozen
    have bc := hbx.cell
    have eA : r.burn.acts = r.acts := by unfold RD.burn; split <;> (try split) <;> rfl
    have eD : r.burn.dir = r.dir := by unfold RD.burn; split <;> (try split) <;> rfl
    have hD2 := h2.keeps (S := fun _ => False) (((Keeps.refl _ w2).alloc (.cells #[.string a, .string b, .int .i64 i] 120)).drew) (fun _ _ => id)
    have hOne : Blk (w2.alloc (.cells #[.string a, .string b, .int .i64 i] 120)).drew w2.heap.size 120 #[strV (⟨a.data.toList, b.data.toList, i⟩ : RAct).frm, strV (⟨a.data.toList, b.data.toList, i⟩ : RAct).to, .int .i64 i] := by
      show Blk _ _ _ #[strV a.data.toList, strV b.data.toList, .int .i64 i]
      rw [← strV_mk, ← strV_mk]; exact (Blk.new _ _ _).drew
    obtain ⟨p, c, w3, P⟩ := hD2.apush ⟨a.data.toList, b.data.toList, i⟩ (by rw [eA]; exact hl2) hOne
    have e1 := P.run
    have c1 := P.blk.cell
    have f1 := P.blk.frozen
    have l1 := h2.blk.lt
    have l2 := hbx.lt
    have hdir := h2.rest.dir
    have hl1' : r.burn.dir.length ≤ 40000 := by rw [eD]; exact hl1
    clear eA eD
    have hK3 : Keeps (fun j => j = g ∨ vA.ownBlock = some j) w w3 := ((hK2.alloc _).drew).trans (P.keeps.mono fun j _ e => .inr e)
    have hb3 : Blk w3 w.heap.size 120 #[.string a, .string b, .int .i64 i] := ((hbx.alloc _).drew).keeps P.keeps (fun e => by have := (hOl _ (.inr (.inr (.inl e)))).2; omega)
    have hK4 : Keeps (fun j => j = g ∨ vA.ownBlock = some j) w (w3.setCell ⟨g, 6, none⟩ (.slice p (r.burn.acts.length + 1) c)) := hK3.trans ((kset _ g 6 _).mono fun j _ e => .inl e)
    have hb4 : Blk (w3.setCell ⟨g, 6, none⟩ (.slice p (r.burn.acts.length + 1) c)) w.heap.size 120 #[.string a, .string b, .int .i64 i] := hb3.far (by show w.heap.size ≠ g; omega) _
    have hd4 : DirAt (w3.setCell ⟨g, 6, none⟩ (.slice p (r.burn.acts.length + 1) c)) vD r.burn.dir := P.dat.rest.dir
    have P' := Lib.hid P
    have h2' := Lib.hid h2
    clear P hD2 hOne hC' bx hd h2 hK2 hK3 hb3 hdir
    go_wp2_with fail
    go_region
    obtain ⟨W4, eW4⟩ : ∃ W4, w3.setCell ⟨g, 6, none⟩ (.slice p (r.burn.acts.length + 1) c) = W4 := ⟨_, rfl⟩
    have hP4 := P'.out.dat
    have hPl := P'.out.lies
    rw [eW4] at hP4 hK4 hb4 hd4
    rw [eW4]
    have l4 := hb4.lt
    have lg := hP4.blk.lt
    have hDn := rdone_calls vD r.burn.dir a b i W4.drew (hd4.later ((Below.refl _ _).drew)) hl1'
    have hDn' := Lib.hid hDn
    have hP4' := Lib.hid hP4
    have q4 := hP4.blk.cell 4
    have bc4 := hb4.cell
    have k2' := Lib.hid z2
    clear hDn P' e1 c1 f1 eW4 qc qf bc h2' hP4 k2 hbx z2 l1 l2
    go_wp2_with fail
    go_region_with (go_at_call 73; (with_reducible refine hDn'.out.mono ?_); rintro e w5 ⟨v5, rfl, p1, p2, p3⟩; obtain ⟨q5, c5, rfl⟩ := p1.slice; have lg5 := (hP4'.out.blk.drew.below p3 lg).cell 4; have lf5 := (hP4'.out.blk.drew.below p3 lg).frozen 4)
    all_goals
      have hR5 := (hP4'.out.keeps (S := fun _ => False) ((Keeps.refl _ _).drew) (fun _ _ => id)).later p3
      have hK5 := hK4.drew.trans (Keeps.of_below p3)
      have hz5 : w.heap.size ≤ W4.heap.size := hK4.size
      have hR6 := hR5.redir p1 (fun j hj => by
        rcases p2 j hj with e | e
        · exact (hOl j (.inr (.inr (.inr (.inl e))))).1
        · have := hOl g (.inl rfl); simp at e; omega)
      have hK6 := hK5.trans ((kset _ g 4 (.slice q5 (List.length (rdone r.burn.dir ⟨a.data.toList, b.data.toList, i⟩)) c5)).mono fun j _ e => .inl e)
      have hR6' := Lib.hid hR6
      have p2' := Lib.hid p2
      clear hR5 hR6 p2 p1 hDn' hP4'
      go_wp2_with fail
      go_ret
      refine ⟨rfl, _, _, hR6'.out, fun j hj => ?_, fun j hj => ?_, hK6⟩
      · rcases p2'.out j hj with e | e
        · exact .inl e
        · exact .inr (by simp at e; omega)
      · rcases hPl j hj with e | e
        · exact .inl e
        · exact .inr (by simp at e; have := k2'.out; omega)
end Go.Proofs.Ytgclancneohpbaa
