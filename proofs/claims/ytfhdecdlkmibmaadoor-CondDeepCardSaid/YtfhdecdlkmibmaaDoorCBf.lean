/- Walks: the writer of a condition's text: WriteByte, Len. -/
import Derived.Test.YtfhdecdlkmibmaaDoorCBe
namespace Go.Proofs.YtfhdecdlkmibmaaDoor
open Go.RowKit
attribute [local go_sem ↓] dapp_op
/-- a byte put behind the writer's bytes -/
theorem run_putb {B : Nat} {w : World} {v : Value} {l : List UInt8} (h : w.ownsRow B 5 1 v l.length (Lib.byteCells l)) (c : UInt8) {q : Nat} (hq : Blk w q 5 #[.int .u8 (c.toNat : Int)]) (hl : l.length + 1 ≤ 1000000000) (hB : B ≤ w.heap.size) :
    ∃ p k w', (dappOp #[45, 45] 45 #[v, .slice (some ⟨q, 0, none⟩) 1 1]).run Tryd.prog w = .ok (.slice p (l.length + 1) k) w' ∧ w'.ownsRow B 5 1 (.slice p (l.length + 1) k) (l ++ [c]).length (Lib.byteCells (l ++ [c])) ∧ w.grownBy w' v.ownBlock := by
  obtain ⟨i0, hi, hz0, hz1, hz2⟩ := info_parts info_u8
  obtain ⟨v', w', h2, h3, h4, _, _⟩ := run_append_own_at (P := Tryd.prog) w B 45 45 5 i0 (.int .u8 0) 1 1 Tryd.underlying45 hi hz0 hz1 hz2 rfl (by decide) v l.length _ h ⟨q, 0, none⟩ 1 1 [.int .u8 (c.toNat : Int)] rfl (by
      intro j u hj
      rw [addr_at, hq.cell j]
      simpa using hj) (by intro u hu; simp at hu; subst hu; rfl) (by unfold maxLen; omega) (by omega) hB
  obtain ⟨p, k, rfl⟩ := own_slice h3
  refine ⟨p, k, w', h2, ?_, h4⟩
  have e : Lib.byteCells (l ++ [c]) = Lib.byteCells l ++ [.int .u8 (c.toNat : Int)] := by unfold Lib.byteCells; rw [List.map_append]; rfl
  rw [e, List.length_append]
  exact h3
set_option maxHeartbeats 2000000 in
set_option maxRecDepth 100000 in
theorem wbyte_calls (B b : Nat) (w : World) (l : List UInt8) (deep : Int) (bad : Bool) (ch : UInt8) (h : WrAt B b w l deep bad) (hl : l.length + 1 ≤ 1000000000) (hB : B ≤ w.heap.size) :
    Calls Tryd.prog 28 #[.pointer (some ⟨b, 0, none⟩), .int .u8 (ch.toNat : Int)] w fun e w' => e = .returned .nilIface ∧ WrAt B b w' (l ++ [ch]) deep bad ∧ WKeeps B b w w' := by
  obtain ⟨h1, p, v, h2, h3, h4⟩ := h
  have hC : Calls Tryd.prog 40 #[.pointer (some ⟨b, 0, none⟩)] w fun e w' => e = .returned (.tuple #[]) ∧ Blk w' b 49 #[.pointer (some ⟨b, 0, none⟩), v, .int .i64 deep, .bool bad] ∧ w'.ownsRow B 5 1 v l.length (Lib.byteCells l) ∧ Keeps (fun j => j = b) w w' := by
    rcases h2 with rfl | rfl
    · have hsh : w.shape? b = some (49, 4) := by
        have hb : w.heap[b]? = some (.cells #[.pointer none, v, .int .i64 deep, .bool bad] 49 (0, 0)) := h3
        simp [World.shape?, hb]
      refine (copyCheck_fresh b w (by rw [h3.cell]; rfl) hsh (h3.frozen 0)).mono ?_
      rintro e w' ⟨rfl, rfl⟩
      have hk : Keeps (fun j => j = b) w (w.setCell ⟨b, 0, none⟩ (.pointer (some ⟨b, 0, none⟩))) := (Keeps.refl (fun j => j = b) w).setCell (p := ⟨b, 0, none⟩) (.inl rfl) _
      refine ⟨rfl, h3.set_ 0 _, own_keeps h4 hk fun g hg e => ?_, hk⟩
      obtain ⟨c, hb⟩ := own_blk h4 g hg
      exact hb.ne_ h3 (by decide) e
    · refine (copyCheck_used b w (by rw [h3.cell]; rfl)).mono ?_
      rintro e w' ⟨rfl, rfl⟩
      exact ⟨rfl, h3, h4, Keeps.refl _ _⟩
  have hC' := Lib.hid hC
  have h3l := h3.lt
  have hbne : ∀ g, v.ownBlock = some g → g ≠ b := fun g hg => by
    obtain ⟨c, hb⟩ := own_blk h4 g hg
    exact hb.ne_ h3 (by decide)
  have hu8 : ∀ g, v.ownBlock = some g → B ≤ g ∧ ∃ cs, Blk w g 5 cs := fun g hg => ⟨(h4.lt g hg).1, own_blk h4 g hg⟩
  clear hC h2 h3 h4
  go_enter Tryd.func28, Tryd.ntmps28
  go_wp2_with fail
  refine hC'.out.mono ?_
  rintro e w1 ⟨rfl, h3, h4, k1⟩
  have z1 := k1.size
  have ka := (Keeps.refl (fun _ => False) w1).alloc (.cells #[.int .u8 (ch.toNat : Int)] 5)
  have hq := Blk.new w1 5 #[.int .u8 (ch.toNat : Int)]
  have hza := alloc_size w1 (.cells #[.int .u8 (ch.toNat : Int)] 5)
  obtain ⟨p2, c2, w2, e2, own2, g2⟩ := run_putb (own_keeps h4 ka fun _ _ => id) ch hq hl (by rw [hza]; omega)
  have c1 := h3.cell
  have b2 : Blk w2 b 49 #[.pointer (some ⟨b, 0, none⟩), v, .int .i64 deep, .bool bad] := (h3.keeps ka id).grown g2 fun e => hbne b e.symm rfl
  have c2c := b2.cell
  have c2f := b2.frozen
  have k2 : Keeps (fun j => j = b ∨ v.ownBlock = some j) w w2 := ((k1.mono fun j _ e => .inl e).trans (ka.mono fun _ _ e => e.elim)).grown g2 fun k e => .inl (.inr e)
  have k3 : Keeps (fun j => j = b ∨ v.ownBlock = some j) w (w2.setCell ⟨b, 1, none⟩ (.slice p2 (l.length + 1) c2)) := k2.setCell (p := ⟨b, 1, none⟩) (.inl (.inl rfl)) _
  have hk2b : Keeps (fun j => j = b) w2 (w2.setCell ⟨b, 1, none⟩ (.slice p2 (l.length + 1) c2)) := (Keeps.refl (fun j => j = b) w2).setCell (p := ⟨b, 1, none⟩) (.inl rfl) _
  have own3 := own_keeps own2 hk2b fun g hg e => by
    obtain ⟨c, hb⟩ := own_blk own2 g hg
    exact hb.ne_ b2 (by decide) e
  have hfin : WrAt B b (w2.setCell ⟨b, 1, none⟩ (.slice p2 (l.length + 1) c2)) (l ++ [ch]) deep bad ∧ WKeeps B b w (w2.setCell ⟨b, 1, none⟩ (.slice p2 (l.length + 1) c2)) := by
    refine ⟨⟨h1, _, _, .inr rfl, b2.set_ 1 _, own3⟩, k3.mono fun j _ e => ?_⟩
    rcases e with e | e
    · exact ⟨by omega, .inl e⟩
    · exact ⟨(hu8 j e).1, .inr (hu8 j e).2⟩
  have hfin' := Lib.hid hfin
  obtain ⟨pv, cv, rfl⟩ := own_slice h4
  have b2l := b2.lt
  clear hfin own3 hk2b k3 k2 b2 g2 own2 h3 h4 k1 hu8 hbne hq ka hza
  go_wp2_with fail
  go_ret
  exact ⟨rfl, hfin'.out⟩
theorem wlen_calls (B b : Nat) (w : World) (l : List UInt8) (deep : Int) (bad : Bool) (h : WrAt B b w l deep bad) :
    Calls Tryd.prog 15 #[.pointer (some ⟨b, 0, none⟩)] w fun e w' => e = .returned (.int .i64 l.length) ∧ w = w' := by
  obtain ⟨h1, p, v, h2, h3, h4⟩ := h
  obtain ⟨pv, cv, rfl⟩ := own_slice h4
  have c := h3.cell
  clear h2 h3 h4
  go_enter Tryd.func15, Tryd.ntmps15
  go_wp2_with fail
  go_ret
  exact ⟨rfl, rfl⟩
end Go.Proofs.YtfhdecdlkmibmaaDoor
