/- Walks: the document's disk: Rename, Remove. -/
import Derived.Test.YtgclancneohpbaaRW5
namespace Go.Proofs.Ytgclancneohpbaa
open Go.RowKit Go.Maps Go.Shelf
theorem rnew_at (w : World) (B : Nat) (hB : B ≤ w.heap.size) (cap c : Int) (hc : c = (((min (max cap 0) 16777216).toNat : Nat) : Int)) : RDisk (w.alloc (.cells #[.int .i64 c, .bool false, .int .i64 (-1), .slice none 0 0, .slice none 0 0, .slice none 0 0, .slice none 0 0] 106)) B w.heap.size (fun j => j = w.heap.size) (RD.new cap) := by
  subst hc
  refine ⟨.slice none 0 0, .slice none 0 0, .slice none 0 0, .slice none 0 0, [], ⟨Blk.new _ _ _, ⟨World.ownsRow_nil _ _ _ _, rfl, fun i x hx => (by cases hx), .inl ⟨rfl, rfl⟩, .inl ⟨rfl, rfl⟩, World.ownsRow_nil _ _ _ _⟩, fun j hj => ?_⟩, ?_⟩
  · rcases hj with e | e | e | e | e | ⟨u, hu, e⟩
    · omega
    all_goals first | cases e | cases hu
  · funext j
    refine propext ⟨fun h => .inl h, ?_⟩
    rintro (e | e | e | e | e | ⟨u, hu, e⟩)
    · exact e
    all_goals first | cases e | cases hu
set_option maxHeartbeats 1000000 in
theorem rnew_calls (cap : Int) (w : World) (B : Nat) (hB : B ≤ w.heap.size) :
    Calls Try.prog 32 #[.int .i64 cap] w fun e w' => e = .returned (.pointer (some ⟨w.heap.size, 0, none⟩)) ∧ RDisk w' B w.heap.size (fun j => j = w.heap.size) (RD.new cap) ∧ Below w.heap.size w w' := by
  go_enter Try.func32, Try.ntmps32
  go_wp2
  all_goals
    go_ret
    exact ⟨rfl, rnew_at w B hB cap _ (by omega), (Below.refl w.heap.size w).alloc (Nat.le_refl _) _⟩
section
variable {w w' : World} {B g : Nat} {vF vD vS vA : Value} {dv : List Value} {r : RD}
theorem RDat.goes (h : RDat w' B g vF vD vS vA dv r) (hk : Keeps (fun j => j = g) w w') : RGoes w B g (rdset g vF vD vS vA dv) r w' :=
  .same ⟨_, _, _, _, _, h, rfl⟩ (hk.mono fun _ _ e => .inl e)
end
set_option maxHeartbeats 1000000 in
theorem rfuse_calls (r : RD) (B g : Nat) (O : Nat → Prop) (n : Int) (w : World) (hd : RDisk w B g O r) :
    Calls Try.prog 60 #[.pointer (some ⟨g, 0, none⟩), .int .i64 n] w fun e w' => e = .returned (.tuple #[]) ∧ RGoes w B g O (r.fused n) w' := by
  obtain ⟨vF, vD, vS, vA, dv, h, rfl⟩ := hd
  have qc := h.blk.cell
  have qf := h.blk.frozen
  have hx : ∀ x : Int, x = max n (-1) → RGoes w B g (rdset g vF vD vS vA dv) (r.fused n) (w.setCell ⟨g, 2, none⟩ (.int .i64 x)) := fun x hx => by
    subst hx
    exact RDat.goes ⟨h.blk.set_ 2 _, h.rest_set 2 _, h.low⟩ (kset _ g 2 _)
  have hx' := Lib.hid hx
  clear hx h
  go_enter Try.func60, Try.ntmps60
  go_wp2
  all_goals
    go_end0
    exact ⟨rfl, hx'.out _ (by omega)⟩
set_option maxHeartbeats 2000000 in
set_option maxRecDepth 100000 in
theorem rsyncDir_calls (r : RD) (B g : Nat) (O : Nat → Prop) (w : World) (hd : RDisk w B g O r) (hf : -1 ≤ r.left ∧ r.left < 9223372036854775808) :
    Calls Try.prog 57 #[.pointer (some ⟨g, 0, none⟩)] w fun e w' => e = .returned (.int .i64 r.syncDirE) ∧ RGoes w B g O r.syncDir w' := by
  have hS := RGoes.same hd (Keeps.refl _ _)
  obtain ⟨vF, vD, vS, vA, dv, h, rfl⟩ := hd
  have hM := rmay_none h
  have hE : r.syncDirE = if r.down then 6 else errDown r.burns := rfl
  have hC : r.syncDir = if r.down then r else if r.burns then { r.burn with safe := r.burn.dir, acts := [] } else r.burn := rfl
  have hS' := Lib.hid hS
  clear hS
  cases hdn : r.down
  · have hm0 : r.may true = 0 := by unfold RD.may; rw [hdn]; rfl
    rw [hm0] at hM
    rw [hdn, if_neg (by decide)] at hE hC
    rw [hE]
    have hB := rburn_calls r B g vF vD vS vA dv w h hf
    have hB' := Lib.hid hB
    have hM' := Lib.hid hM
    clear hM hE hB hm0 hdn
    cases hbn : r.burns
    · rw [hbn] at hB' hC
      rw [if_neg (by decide)] at hC
      rw [hC]
      clear hC
      go_enter Try.func57, Try.ntmps57
      go_wp2_with fail
      refine hM'.out.mono ?_
      rintro e w1 ⟨rfl, rfl⟩
      go_wp2_with fail
      refine hB'.out.mono ?_
      rintro e w2 ⟨rfl, b2, k2⟩
      go_wp2
      go_ret
      exact ⟨rfl, b2.goes k2⟩
    · rw [hbn] at hB' hC
      rw [if_pos rfl] at hC
      rw [hC]
      clear hC
      obtain ⟨pD, cD, rfl⟩ := h.rest.dir.slice
      go_enter Try.func57, Try.ntmps57
      go_wp2_with fail
      refine hM'.out.mono ?_
      rintro e w1 ⟨rfl, rfl⟩
      go_wp2_with fail
      refine hB'.out.mono ?_
      rintro e w2 ⟨rfl, b2, k2⟩
      have qc := b2.blk.cell
      have qf := b2.blk.frozen
      have r1 := b2.rest_set 6 (.slice none 0 0)
      have bb := b2.blk.set_ 6 (.slice none 0 0)
      have hd3 : RDat (w2.setCell ⟨g, 6, none⟩ (.slice none 0 0)) B g vF (.slice pD r.dir.length cD) vS (.slice none 0 0) dv { r.burn with acts := [] } := ⟨bb, ⟨r1.files, r1.len, r1.data, r1.dir, r1.safe, World.ownsRow_nil _ _ _ _⟩, fun j hj => by
        rcases hj with e | e | e | e | e | e
        · exact b2.low j (.inl e)
        · exact b2.low j (.inr (.inl e))
        · cases e
        · exact b2.low j (.inr (.inr (.inr (.inl e))))
        · exact b2.low j (.inr (.inr (.inr (.inr (.inl e)))))
        · exact b2.low j (.inr (.inr (.inr (.inr (.inr e)))))⟩
      have r2 := hd3.rest_set 5 (.slice pD r.dir.length cD)
      have hd4 : RDat ((w2.setCell ⟨g, 6, none⟩ (.slice none 0 0)).setCell ⟨g, 5, none⟩ (.slice pD r.dir.length cD)) B g vF (.slice pD r.dir.length cD) (.slice pD r.dir.length cD) (.slice none 0 0) dv { r.burn with safe := r.burn.dir, acts := [] } := ⟨hd3.blk.set_ 5 _, ⟨r2.files, r2.len, r2.data, r2.dir, r2.dir, World.ownsRow_nil _ _ _ _⟩, fun j hj => by
        rcases hj with e | e | e | e | e | e
        · exact b2.low j (.inl e)
        · exact b2.low j (.inr (.inl e))
        · cases e
        · exact b2.low j (.inr (.inr (.inr (.inl e))))
        · exact b2.low j (.inr (.inr (.inr (.inl e))))
        · exact b2.low j (.inr (.inr (.inr (.inr (.inr e)))))⟩
      have hG : RGoes w B g (rdset g vF (.slice pD r.dir.length cD) vS vA dv) { r.burn with safe := r.burn.dir, acts := [] } ((w2.setCell ⟨g, 6, none⟩ (.slice none 0 0)).setCell ⟨g, 5, none⟩ (.slice pD r.dir.length cD)) := by
        refine ⟨⟨_, ⟨_, _, _, _, _, hd4, rfl⟩, fun j hj => ?_⟩, (k2.trans ((kset _ g 6 _).trans (kset _ g 5 _))).mono fun _ _ e => .inl e⟩
        rcases hj with e | e | e | e | e | e
        · exact .inl (.inl e)
        · exact .inl (.inr (.inl e))
        · cases e
        · exact .inl (.inr (.inr (.inr (.inl e))))
        · exact .inl (.inr (.inr (.inr (.inl e))))
        · exact .inl (.inr (.inr (.inr (.inr (.inr e)))))
      have hG' := Lib.hid hG
      clear hG hd4 hd3 r1 r2 bb b2 k2 h hS' hM' hB'
      go_wp2
      go_ret
      exact ⟨rfl, hG'.out⟩
  · have hm0 : r.may true = 6 := by unfold RD.may; rw [hdn]; rfl
    rw [hm0] at hM
    rw [hdn, if_pos rfl] at hE hC
    rw [hE, hC]
    have hM' := Lib.hid hM
    clear hM hE hC hm0 hdn h
    go_enter Try.func57, Try.ntmps57
    go_wp2_with fail
    refine hM'.out.mono ?_
    rintro e w1 ⟨rfl, rfl⟩
    go_wp2
    go_ret
    exact ⟨rfl, hS'.out⟩
end Go.Proofs.Ytgclancneohpbaa
namespace Go.Proofs.Ytgclancneohpbaa
open Go.RowKit Go.Maps Go.Shelf
def RD.tried (r : RD) (a : RAct) : RD := if r.burns then r.act a else r.burn
set_option maxHeartbeats 2000000 in
set_option maxRecDepth 100000 in
theorem rremove_calls (r : RD) (B g m : Nat) (O : Nat → Prop) (s : ByteArray) (w : World) (hd : RDisk w B g O r) (hk : RDok r m) (hm : m ≤ 4000) (hs : s.size ≤ maxLen) :
    Calls Try.prog 59 #[.pointer (some ⟨g, 0, none⟩), .string s] w fun e w' => e = .returned (.int .i64 (r.removeE s.data.toList)) ∧ RGoes w B g O (r.remove s.data.toList) w' := by
  have B1 := (Below.refl w.heap.size w).alloc (Nat.le_refl _) (.cells #[.string s] 9)
  have hS := RGoes.same (hd.later B1) (.of_below B1)
  obtain ⟨vF, vD, vS, vA, dv, h, rfl⟩ := hd
  have hM := rmay_one h s hs
  have hE : r.removeE s.data.toList = if r.findE s.data.toList = 0 then errDown r.burns else r.findE s.data.toList := rfl
  have hC : r.remove s.data.toList = if r.findE s.data.toList = 0 then (r.tried ⟨s.data.toList, [], 0⟩) else r := rfl
  have hF : r.findE s.data.toList = if r.may (dName s.data.toList) = 0 then (if (rfind r.dir s.data.toList).isSome then 0 else 4) else r.may (dName s.data.toList) := rfl
  have hS' := Lib.hid hS
  clear hS
  rcases rmay_cases r (dName s.data.toList) with hm0 | hm0 | hm0
  · rw [hm0] at hM
    rw [if_pos hm0] at hF
    have h1 := h.later B1
    have hN := rfind_calls vD r.dir s _ h1.rest.dir (by have := hk.dir; omega)
    have qc := h1.blk.cell
    have hM' := Lib.hid hM
    cases hfi : rfind r.dir s.data.toList with
    | none =>
      rw [hfi] at hN hF
      rw [show (if (none : Option Nat).isSome = true then (0 : Int) else 4) = 4 from rfl] at hF
      rw [hF, if_neg (by decide)] at hE hC
      rw [hE, hC]
      have hN' := Lib.hid hN
      clear hE hC hF hM hN hfi hk h
      go_enter Try.func59, Try.ntmps59
      go_wp2_with fail
      refine hM'.out.mono ?_
      rintro e w1 ⟨rfl, rfl⟩
      go_wp2_with fail
      refine hN'.out.mono ?_
      rintro e w2 ⟨rfl, b2⟩
      unfold numI
      go_wp2
      go_ret
      exact ⟨rfl, hS'.out.later b2⟩
    | some i =>
      rw [hfi] at hN hF
      rw [show (if (some i : Option Nat).isSome = true then (0 : Int) else 4) = 0 from rfl] at hF
      rw [hF, if_pos rfl] at hE hC
      rw [hE, hC]
      have hN' := Lib.hid hN
      have hdl := hk.dir
      have hal := hk.sacts
      have hlf := hk.left
      have h' := Lib.hid h
      clear hE hC hF hM hN hfi hk h
      go_enter Try.func59, Try.ntmps59
      go_wp2_with fail
      refine hM'.out.mono ?_
      rintro e w1 ⟨rfl, rfl⟩
      go_wp2_with fail
      refine hN'.out.mono ?_
      rintro e w2 ⟨rfl, b2⟩
      have B2 := B1.trans (b2.mono (by simp))
      have h2 := h'.out.later B2
      have q2 := h2.blk.cell
      have hA := ract_calls r B g _ _ vS vA dv s ⟨#[]⟩ 0 w2 h2 hlf (by omega) (by omega)
      have hA' := Lib.hid hA
      unfold numI
      have hi0 : (0 : Int) ≤ (i : Int) := by omega
      clear hA hM' hN' qc h1 h2 b2
      go_wp2_with fail
      refine hA'.out.mono ?_
      rintro e w3 ⟨rfl, a3⟩
      have hG := RGoes.at B2 a3.goes
      have hG' := Lib.hid hG
      clear a3 hG hA'
      go_wp2
      go_ret
      exact ⟨rfl, hG'.out⟩
  all_goals
    rw [hm0] at hM hF
    rw [if_neg (by decide)] at hF
    rw [hF, if_neg (by decide)] at hE hC
    rw [hE, hC]
    have hM' := Lib.hid hM
    clear hE hC hF hM hk h
    go_enter Try.func59, Try.ntmps59
    go_wp2_with fail
    refine hM'.out.mono ?_
    rintro e w1 ⟨rfl, rfl⟩
    go_wp2
    go_ret
    exact ⟨rfl, hS'.out⟩
set_option maxHeartbeats 2000000 in
set_option maxRecDepth 100000 in
theorem rrename_calls (r : RD) (B g m : Nat) (O : Nat → Prop) (s t : ByteArray) (w : World) (hd : RDisk w B g O r) (hk : RDok r m) (hm : m ≤ 4000) (hs : s.size ≤ maxLen) (ht : t.size ≤ maxLen) :
    Calls Try.prog 58 #[.pointer (some ⟨g, 0, none⟩), .string s, .string t] w fun e w' => e = .returned (.int .i64 (r.renameE s.data.toList t.data.toList)) ∧ RGoes w B g O (r.rename s.data.toList t.data.toList) w' := by
  have B1 := (Below.refl w.heap.size w).alloc (Nat.le_refl _) (.cells #[.string s, .string t] 9)
  have hS := RGoes.same (hd.later B1) (.of_below B1)
  obtain ⟨vF, vD, vS, vA, dv, h, rfl⟩ := hd
  have hM := rmay_two h s t hs ht
  have hE : r.renameE s.data.toList t.data.toList = if r.may (dName s.data.toList && dName t.data.toList) = 0 then (if r.findE s.data.toList = 0 then errDown r.burns else r.findE s.data.toList) else r.may (dName s.data.toList && dName t.data.toList) := rfl
  have hC : r.rename s.data.toList t.data.toList = if r.may (dName s.data.toList && dName t.data.toList) = 0 then (if r.findE s.data.toList = 0 then (r.tried ⟨s.data.toList, t.data.toList, r.num s.data.toList⟩) else r) else r := rfl
  have hS' := Lib.hid hS
  clear hS
  rcases rmay_cases r (dName s.data.toList && dName t.data.toList) with hm0 | hm0 | hm0
  · have hm1 : r.may (dName s.data.toList) = 0 := by
      unfold RD.may at hm0 ⊢
      revert hm0
      cases r.down <;> cases dName s.data.toList <;> cases dName t.data.toList <;> simp
    have hF : r.findE s.data.toList = if r.may (dName s.data.toList) = 0 then (if (rfind r.dir s.data.toList).isSome then 0 else 4) else r.may (dName s.data.toList) := rfl
    rw [hm0] at hM
    rw [if_pos hm0] at hE hC
    rw [if_pos hm1] at hF
    have h1 := h.later B1
    have hN := rfind_calls vD r.dir s _ h1.rest.dir (by have := hk.dir; omega)
    have qc := h1.blk.cell
    have hM' := Lib.hid hM
    cases hfi : rfind r.dir s.data.toList with
    | none =>
      rw [hfi] at hN hF
      rw [show (if (none : Option Nat).isSome = true then (0 : Int) else 4) = 4 from rfl] at hF
      rw [hF, if_neg (by decide)] at hE hC
      rw [hE, hC]
      have hN' := Lib.hid hN
      clear hE hC hF hM hN hfi hk h hm0 hm1
      go_enter Try.func58, Try.ntmps58
      go_wp2_with fail
      refine hM'.out.mono ?_
      rintro e w1 ⟨rfl, rfl⟩
      go_wp2_with fail
      refine hN'.out.mono ?_
      rintro e w2 ⟨rfl, b2⟩
      unfold numI
      go_wp2
      go_ret
      exact ⟨rfl, hS'.out.later b2⟩
    | some i =>
      have hnum : r.num s.data.toList = i := by unfold RD.num; rw [hfi]; rfl
      rw [hfi] at hN hF
      rw [show (if (some i : Option Nat).isSome = true then (0 : Int) else 4) = 0 from rfl] at hF
      rw [hF, if_pos rfl] at hE hC
      rw [hnum] at hC
      rw [hE, hC]
      have hN' := Lib.hid hN
      have hdl := hk.dir
      have hal := hk.sacts
      have hlf := hk.left
      have h' := Lib.hid h
      clear hE hC hF hM hN hfi hk h hm0 hm1 hnum
      go_enter Try.func58, Try.ntmps58
      go_wp2_with fail
      refine hM'.out.mono ?_
      rintro e w1 ⟨rfl, rfl⟩
      go_wp2_with fail
      refine hN'.out.mono ?_
      rintro e w2 ⟨rfl, b2⟩
      have B2 := B1.trans (b2.mono (by simp))
      have h2 := h'.out.later B2
      have q2 := h2.blk.cell
      have hA := ract_calls r B g _ _ vS vA dv s t i w2 h2 hlf (by omega) (by omega)
      have hA' := Lib.hid hA
      unfold numI
      have hi0 : (0 : Int) ≤ (i : Int) := by omega
      clear hA hM' hN' qc h1 h2 b2
      go_wp2_with fail
      refine hA'.out.mono ?_
      rintro e w3 ⟨rfl, a3⟩
      have hG := RGoes.at B2 a3.goes
      have hG' := Lib.hid hG
      clear a3 hG hA'
      go_wp2
      go_ret
      exact ⟨rfl, hG'.out⟩
  all_goals
    rw [hm0] at hM
    rw [hm0, if_neg (by decide)] at hE hC
    rw [hE, hC]
    have hM' := Lib.hid hM
    clear hE hC hM hk h hm0
    go_enter Try.func58, Try.ntmps58
    go_wp2_with fail
    refine hM'.out.mono ?_
    rintro e w1 ⟨rfl, rfl⟩
    go_wp2
    go_ret
    exact ⟨rfl, hS'.out⟩
end Go.Proofs.Ytgclancneohpbaa
