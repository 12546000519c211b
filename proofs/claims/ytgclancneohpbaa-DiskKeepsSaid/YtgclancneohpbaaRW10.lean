/- Walks: the document's disk: Append. -/
import Derived.Test.YtgclancneohpbaaRW9
import Derived.Deep.RegionHeld3
import Derived.IntWalk
namespace Go.Proofs.Ytgclancneohpbaa
open Go.RowKit Go.Maps Go.Shelf
attribute [local go_sem ↓] dapp_op
/-- bytes behind a copy of bytes -/
theorem two_appends {W : World} {u v : Value} {l b : List UInt8} (hu : Bytes W u l) (hv : Bytes W v b) (hl : l.length ≤ 1000000000) (hb : b.length ≤ 1000000) :
    ∃ v1 w1 p c w2, (dappOp #[51, 51] 51 #[.slice (some ⟨W.heap.size, 0, none⟩) 0 0, u]).run Try.prog (W.alloc (.cells #[] 5)).drew = .ok v1 w1 ∧ (dappOp #[51, 51] 51 #[v1, v]).run Try.prog w1 = .ok (.slice p (l ++ b).length c) w2 ∧
      w2.ownsRow W.heap.size 5 1 (.slice p (l ++ b).length c) (l ++ b).length (bcells (l ++ b)) ∧ Below W.heap.size W w1 ∧ Below W.heap.size W w2 := by
  have B0 : Below W.heap.size W (W.alloc (.cells #[] 5)).drew := ((Below.refl _ _).alloc (Nat.le_refl _) _).drew
  have ho : (W.alloc (.cells #[] 5)).ownsRow W.heap.size 5 1 (.slice (some ⟨W.heap.size, 0, none⟩) 0 0) 0 [] := World.ownsRow_made W #[] 0 (Nat.le_refl _) (by decide) rfl
  have ho0 : (W.alloc (.cells #[] 5)).drew.ownsRow W.heap.size 5 1 (.slice (some ⟨W.heap.size, 0, none⟩) 0 0) ([] : List UInt8).length (bcells []) := own_keeps (S := fun _ => False) ho ((Keeps.refl _ _).drew) (fun _ _ => id)
  obtain ⟨v1, w1, e1, o1, g1, _⟩ := bytes_append ho0 (hu.later B0) (by simp; omega) (by simp)
  have k1 : Keeps (fun j => j = W.heap.size) (W.alloc (.cells #[] 5)).drew w1 := (Keeps.refl _ _).grown g1 (fun k e => .inl (by cases e; rfl))
  have B1 : Below W.heap.size W w1 := B0.trans (k1.below (fun k _ e => Nat.le_of_eq e.symm) (by simp))
  rw [List.nil_append] at o1
  obtain ⟨v2, w2, e2, o2, g2, _⟩ := bytes_append o1 (hv.later B1) (by omega) B1.size
  obtain ⟨p, c, rfl⟩ := own_slice o2
  have k2 : Keeps (fun j => v1.ownBlock = some j) w1 w2 := (Keeps.refl _ _).grown g2 (fun k e => .inl e)
  exact ⟨v1, w1, p, c, w2, e1, e2, o2, B1, B1.trans (k2.below (fun k _ e => (o1.lt k e).1) B1.size)⟩
set_option maxHeartbeats 4000000 in
set_option maxRecDepth 100000 in
theorem rappend_calls (r : RD) (B g m : Nat) (O : Nat → Prop) (s : ByteArray) (v : Value) (b : List UInt8) (w : World) (hd : RDisk w B g O r) (hk : RDok r m) (hm : m ≤ 4000) (hs : s.size ≤ maxLen) (hv : Bytes w v b) (hvO : ∀ j, v.ownBlock = some j → b ≠ [] → ¬ O j) (hb : b.length ≤ 65536) :
    Calls Try.prog 55 #[.pointer (some ⟨g, 0, none⟩), .string s, v] w fun e w' => e = .returned (.int .i64 (r.appE s.data.toList b.length)) ∧ RGoes w B g O (r.append s.data.toList b) w' := by
  have B1 := (Below.refl w.heap.size w).alloc (Nat.le_refl _) (.cells #[.string s] 9)
  have hS := RGoes.same (hd.later B1) (.of_below B1)
  obtain ⟨vF, vD, vS, vA, dv, h, rfl⟩ := hd
  have hM := rmay_one h s hs
  have hE : r.appE s.data.toList b.length = if r.findE s.data.toList = 0 then (if r.cap < r.used + b.length then 5 else errDown r.burns) else r.findE s.data.toList := rfl
  have hC : r.append s.data.toList b = if r.findE s.data.toList = 0 then (if r.cap < r.used + b.length then r else if r.burns then { r.burn with files := r.files.set (r.num s.data.toList) ⟨(r.got (r.num s.data.toList)).data ++ b, (r.got (r.num s.data.toList)).safe⟩ } else r.burn) else r := rfl
  have hF : r.findE s.data.toList = if r.may (dName s.data.toList) = 0 then (if (rfind r.dir s.data.toList).isSome then 0 else 4) else r.may (dName s.data.toList) := rfl
  have hS' := Lib.hid hS
  obtain ⟨pv, cv, rfl⟩ := hv.slice
  clear hS
  rcases rmay_cases r (dName s.data.toList) with hm0 | hm0 | hm0
  · have hdn : r.down = false := by
      unfold RD.may at hm0
      revert hm0
      cases r.down <;> simp
    rw [hm0] at hM
    rw [if_pos hm0] at hF
    have h1 := h.later B1
    have hN := rfind_calls vD r.dir s _ h1.rest.dir (by have := hk.dir; omega)
    have qc := h1.blk.cell
    have hM' := Lib.hid hM
    cases hfi : rfind r.dir s.data.toList with
    | none =>
      rw [hfi] at hN hF
      rw [show (if (none : Option Nat).isSome = true then (0 : Int) else 4) = 4 from rfl] at hF
      rw [hF, if_neg (by decide)] at hE hC
      rw [hE, hC]
      have hN' := Lib.hid hN
      clear hE hC hF hM hN hfi hk h hdn
      go_enter Try.func55, Try.ntmps55
      go_wp2_with fail
      refine hM'.out.mono ?_
      rintro e w1 ⟨rfl, rfl⟩
      go_wp2_with fail
      refine hN'.out.mono ?_
      rintro e w2 ⟨rfl, b2⟩
      unfold numI
      go_wp2
      go_ret
      exact ⟨rfl, hS'.out.later b2⟩
    | some i =>
      have hfn := hk.find hfi
      have hnum : r.num s.data.toList = i := by unfold RD.num; rw [hfi]; rfl
      rw [hfi] at hN hF
      rw [show (if (some i : Option Nat).isSome = true then (0 : Int) else 4) = 0 from rfl] at hF
      rw [hF, if_pos rfl] at hE hC
      rw [hnum] at hC
      rw [hE, hC]
      have hN' := Lib.hid hN
      have hi0 : (0 : Int) ≤ (i : Int) := by omega
      have hU := fun w2 (h2 : RDat w2 B g vF vD vS vA dv r) => rused_calls r B g m vF vD vS vA dv w2 h2 hk hm
      have hua : r.usedA = (r.used : Int) := by unfold RD.usedA; rw [hdn]; rfl
      rw [hua] at hU
      have hub : r.used ≤ 4000 * (4000 * 65536) := by
        refine Nat.le_trans (rsum_le (fun x hx => (hk.small x hx).2) _) (Nat.mul_le_mul ?_ (Nat.mul_le_mul_right _ hm))
        unfold rnums; rw [List.length_map]; exact Nat.le_trans hk.dir hm
      have hcb := hk.cap
      have hU' := Lib.hid hU
      have h' := Lib.hid h
      have hk' := Lib.hid hk
      clear hE hC hF hM hN hfi hk h hnum h1 hU hua hdn
      by_cases hcap : r.cap < r.used + b.length
      · rw [if_pos hcap, if_pos hcap]
        generalize hus : r.used = us at *
        have hus' := Lib.hid hus
        clear hus
        go_enter Try.func55, Try.ntmps55
        go_wp2_with fail
        refine hM'.out.mono ?_
        rintro e w1 ⟨rfl, rfl⟩
        go_wp2_with fail
        refine hN'.out.mono ?_
        rintro e w2 ⟨rfl, b2⟩
        have B2 := B1.trans (b2.mono (by simp))
        have h2 := h'.out.later B2
        have hU2 := hU'.out w2.drew (h2.later (Below.refl _ _).drew)
        have hU2' := Lib.hid hU2
        have q2 := h2.blk.cell
        have l2 := h2.blk.lt
        have h2' := Lib.hid h2
        unfold numI
        clear hM' hN' qc b2 hU2 h2
        have hsum : IntKind.i64.wrap ((us : Int) + (b.length : Int)) = (us : Int) + (b.length : Int) := IntWalk.i64_in _ (by omega)
        go_wp2_with fail
        go_region_held3 (fun w' => w'.cell? ⟨g, 0, none⟩ = some (.int .i64 r.cap)) (first | exact h2'.out.blk.drew.cell 0 | exact (h2'.out.blk.drew.below b3 l2).cell 0) ((go_at_call 34; with_reducible refine hU2'.out.mono ?_; rintro e w3 ⟨rfl, b3⟩))
        clear hsum
        go_wp2
        go_ret
        exact ⟨rfl, RGoes.at B2 (RGoes.same ⟨_, _, _, _, _, (h2'.out.later (Below.refl _ _).drew).later b3, rfl⟩ ((Keeps.refl _ _).drew.trans (.of_below b3)))⟩
      · rw [if_neg hcap, if_neg hcap]
        generalize hus : r.used = us at *
        have hus' := Lib.hid hus
        have hfe := burn_facts r
        have hfe' := Lib.hid hfe
        have hB := fun w2 (h2 : RDat w2 B g vF vD vS vA dv r) => rburn_calls r B g vF vD vS vA dv w2 h2 hk'.out.left
        have hB' := Lib.hid hB
        clear hus hfe hB
        cases hbn : r.burns
        · rw [if_neg (by decide)]
          go_enter Try.func55, Try.ntmps55
          go_wp2_with fail
          refine hM'.out.mono ?_
          rintro e w1 ⟨rfl, rfl⟩
          go_wp2_with fail
          refine hN'.out.mono ?_
          rintro e w2 ⟨rfl, b2⟩
          have B2 := B1.trans (b2.mono (by simp))
          have h2 := h'.out.later B2
          have hU2 := hU'.out w2.drew (h2.later (Below.refl _ _).drew)
          have hU2' := Lib.hid hU2
          have q2 := h2.blk.cell
          have l2 := h2.blk.lt
          have h2' := Lib.hid h2
          unfold numI
          clear hM' hN' qc b2 hU2 h2
          have hsum : IntKind.i64.wrap ((us : Int) + (b.length : Int)) = (us : Int) + (b.length : Int) := IntWalk.i64_in _ (by omega)
          go_wp2_with fail
          go_region_held3 (fun w' => w'.cell? ⟨g, 0, none⟩ = some (.int .i64 r.cap)) (first | exact h2'.out.blk.drew.cell 0 | exact (h2'.out.blk.drew.below b3 l2).cell 0) ((go_at_call 34; with_reducible refine hU2'.out.mono ?_; rintro e w3 ⟨rfl, b3⟩))
          clear hsum
          have B3 := B2.trans (((Below.refl w2.heap.size w2).drew.trans b3).mono B2.size)
          have hB3 := hB'.out w3 (h'.out.later B3)
          rw [hbn] at hB3
          have hB3' := Lib.hid hB3
          clear hB3 b3
          go_wp2_with fail
          refine hB3'.out.mono ?_
          rintro e w4 ⟨rfl, b4, k4⟩
          go_wp2
          go_ret
          exact ⟨rfl, RGoes.at B3 (b4.goes k4)⟩
        · rw [if_pos rfl]
          go_enter Try.func55, Try.ntmps55
          go_wp2_with fail
          refine hM'.out.mono ?_
          rintro e w1 ⟨rfl, rfl⟩
          go_wp2_with fail
          refine hN'.out.mono ?_
          rintro e w2 ⟨rfl, b2⟩
          have B2 := B1.trans (b2.mono (by simp))
          have h2 := h'.out.later B2
          have hU2 := hU'.out w2.drew (h2.later (Below.refl _ _).drew)
          have hU2' := Lib.hid hU2
          have q2 := h2.blk.cell
          have l2 := h2.blk.lt
          have h2' := Lib.hid h2
          unfold numI
          clear hM' hN' qc b2 hU2 h2
          have hsum : IntKind.i64.wrap ((us : Int) + (b.length : Int)) = (us : Int) + (b.length : Int) := IntWalk.i64_in _ (by omega)
          go_wp2_with fail
          go_region_held3 (fun w' => w'.cell? ⟨g, 0, none⟩ = some (.int .i64 r.cap)) (first | exact h2'.out.blk.drew.cell 0 | exact (h2'.out.blk.drew.below b3 l2).cell 0) ((go_at_call 34; with_reducible refine hU2'.out.mono ?_; rintro e w3 ⟨rfl, b3⟩))
          clear hsum
          have B3 := B2.trans (((Below.refl w2.heap.size w2).drew.trans b3).mono B2.size)
          have hB3 := hB'.out w3 (h'.out.later B3)
          rw [hbn] at hB3
          have hB3' := Lib.hid hB3
          clear hB3 b3 q2
          go_wp2_with fail
          refine hB3'.out.mono ?_
          rintro e w4 ⟨rfl, b4, k4⟩
          obtain ⟨f1, f2, f3, f4, f5⟩ := hfe'.out
          have hfn3 : i < r.burn.files.length := by rw [f2]; exact hfn
          obtain ⟨f, c, x, p, c', rfl, hx, hdvx, hda, r0, r1, rf, hfl⟩ := b4.rest.file hfn3
          have q4 := b4.blk.cell
          have hgl := b4.blk.lt
          have hxl : x.data.length ≤ 4000 * 65536 := Nat.le_trans ((hk'.out.small x (by rw [← f2]; exact List.mem_of_getElem? hx)).2) (Nat.mul_le_mul_right _ hm)
          have hgot : r.got i = x := by unfold RD.got; rw [← f2, List.getD_eq_getElem?_getD, hx]; rfl
          have hfl3 : r.burn.files.length ≤ m := by rw [f2]; exact hk'.out.files
          have hv4 : Bytes w4 (.slice pv b.length cv) b := (hv.later B3).keepsP k4 (fun j hj hn e => by obtain rfl := e; exact hvO _ hj hn (.inl rfl))
          have z3 := B3.size
          have z4 := k4.size
          obtain ⟨v1, wa, p2, c2, wb, e1, e2, ho, Ba, Bb⟩ := two_appends (DataAt.bytes hda) hv4 (by omega) (by omega)
          have qa : ∀ i, wa.cell? ⟨g, i, none⟩ = _ := fun i => (Ba.cell (p := ⟨g, i, none⟩) hgl).trans (q4 i)
          have qb : ∀ i, wb.cell? ⟨g, i, none⟩ = _ := fun i => (Bb.cell (p := ⟨g, i, none⟩) hgl).trans (q4 i)
          have ra : wa.cell? ⟨f, i * 2, none⟩ = _ := (Ba.cell (p := ⟨f, i * 2, none⟩) hfl).trans r0
          have rb : wb.cell? ⟨f, i * 2, none⟩ = _ := (Bb.cell (p := ⟨f, i * 2, none⟩) hfl).trans r0
          have rbf : wb.frozen? ⟨f, i * 2, none⟩ = false := (Bb.frozen (p := ⟨f, i * 2, none⟩) hfl).trans (rf _)
          have hdb := b4.later Bb
          have hfin := hdb.fset0 hx (RowAt.of_own ho : DataAt wb _ _) (fun j hj => by have := (ho.lt j hj).1; have := (b4.lt g (.inl rfl)).1; omega)
          have hG : RGoes w B g (rdset g (.slice (some ⟨f, 0, none⟩) r.burn.files.length c) vD vS vA dv) { r.burn with files := r.files.set i ⟨(r.got i).data ++ b, (r.got i).safe⟩ } (wb.setCell ⟨f, i * 2, none⟩ (.slice p2 (x.data ++ b).length c2)) := by
            rw [hgot, ← f2]
            refine RGoes.at B3 ⟨⟨_, ⟨_, _, _, _, _, hfin, rfl⟩, fun j hj => ?_⟩, ((k4.mono fun j _ e => .inl e).trans ((Keeps.of_below Bb).trans ((kset _ f (i * 2) _).mono fun j _ e => ?_)))⟩
            · rcases hj with e | e | e | e | e | ⟨u, hu, e⟩
              · exact .inl (.inl e)
              · exact .inl (.inr (.inl e))
              · exact .inl (.inr (.inr (.inl e)))
              · exact .inl (.inr (.inr (.inr (.inl e))))
              · exact .inl (.inr (.inr (.inr (.inr (.inl e)))))
              · rcases List.mem_or_eq_of_mem_set hu with hu | rfl
                · exact .inl (.inr (.inr (.inr (.inr (.inr ⟨u, hu, e⟩)))))
                · exact .inr (by have := (ho.lt j e).1; omega)
            · exact .inr (.inl (by rw [e]; rfl))
          have hG' := Lib.hid hG
          clear hG hfin hdb hgot hx hdvx hda b4 k4 hB3' f1 f2 f3 f4 f5 hS' h' hB' hfe' hv hv4 hvO ho Ba Bb hU2' h2' hU' B2 B3 B1
          go_wp2_with fail
          go_region
          go_wp2
          go_ret
          exact ⟨rfl, by have := hG'.out; rw [List.length_append] at this; exact this⟩
  all_goals
    rw [hm0] at hM hF
    rw [if_neg (by decide)] at hF
    rw [hF, if_neg (by decide)] at hE hC
    rw [hE, hC]
    have hM' := Lib.hid hM
    clear hE hC hF hM hk h
    go_enter Try.func55, Try.ntmps55
    go_wp2_with fail
    refine hM'.out.mono ?_
    rintro e w1 ⟨rfl, rfl⟩
    go_wp2
    go_ret
    exact ⟨rfl, hS'.out⟩
end Go.Proofs.Ytgclancneohpbaa
