/- Walk: the document's quota: at, of no clients. -/
import Derived.Test.YtgclancneohpbaaQR4
import Derived.Sort.Walk0
namespace Go.Proofs.Ytgclancneohpbaa
open Go.RowKit
attribute [local go_sem ↓] app_op
set_option maxHeartbeats 4000000 in
set_option maxRecDepth 100000 in
theorem at_nil (rate most now : Nat) (B g : Nat) (s : ByteArray) (w : World) (hr : Rat w B g (.slice none 0 0) ⟨rate, most, now, []⟩) (hB : B ≤ w.heap.size) :
    Calls Try.prog 43 #[.pointer (some ⟨g, 0, none⟩), .string s] w (AtPost w B g (.slice none 0 0) ⟨rate, most, now, []⟩ s) := by
  have hR' := Lib.hid hr
  have hg := hr.blk.lt
  have qc := hr.blk.cell
  have hgf := hr.blk.frozen
  have hs : sorted ([] : List (ByteArray × Nat)) := by unfold sorted; simp
  have hA := at_put (cs := []) most (i := 0) s hs (fun c hc => by simp at hc) (Nat.le_refl _) (fun j c hj => absurd hj (by omega)) (fun c hc => by simp at hc)
  have hA' := Lib.hid hA
  clear hA hr
  go_enter Try.func43, Try.ntmps43
  go_wp2_with fail
  refine wp_loop_rounds 1 ?_
  rw [rounds_succ]
  go_wp2_with fail
  refine wp_loop_rounds 1 ?_
  rw [rounds_succ]
  go_wp2_with fail
  obtain ⟨wr, ew⟩ : ∃ wr, w = wr := ⟨_, rfl⟩
  subst ew
  have hgw := hg
  have hgne : g ≠ w.heap.size := by omega
  have c1 : Can w (.slice none 0 0) 0 [] := can_nil w
  have c3 : Can w (.slice none 0 0) 0 [] := can_nil w
  have bE := (Below.refl w.heap.size w).alloc (Nat.le_refl _) (.cells #[] 40)
  have bO := (Below.refl w.heap.size w).alloc (Nat.le_refl _) (.cells #[.string s, .int .u64 most] 40)
  have bEO := (bE.alloc (by simp) (.cells #[.string s, .int .u64 most] 40)).drew
  have bOE := (bO.alloc (by simp) (.cells #[] 40)).drew
  have oE : (w.alloc (.cells #[] 40)).ownsRow w.heap.size 40 2 (.slice (some ⟨w.heap.size, 0, none⟩) 0 0) 0 [] := World.ownsRow_lit w #[] 0 (Nat.le_refl _) (by unfold maxLen; omega) rfl
  have oE2 := World.ownsRow_lit (base := w.heap.size) (e := 40) (size := 2) (w.alloc (.cells #[.string s, .int .u64 most] 40)) #[] 0 (by simp) (by unfold maxLen; omega) rfl
  rw [World.size_alloc] at oE2
  have hbO := Blk.new (w.alloc (.cells #[] 40)) 40 #[.string s, .int .u64 most]
  rw [World.size_alloc] at hbO
  obtain ⟨v1, v2, v3, w1, w2, w3, T⟩ := three_one (Wd := w) (by omega) bEO ((oE.alloc (.cells #[.string s, .int .u64 most] 40)).drew) c1 c3 hbO.drew (by simp [Value.ownBlock])
  obtain ⟨v1', v2', v3', w1', w2', w3', T'⟩ := three_one (Wd := w) (by omega) bOE oE2.drew c1 c3 (((Blk.new w 40 #[.string s, .int .u64 most]).alloc (.cells #[] 40)).drew) (by simp [Value.ownBlock])
  obtain ⟨v1'', v2'', v3'', w1'', w2'', w3'', T''⟩ := three_late (Wd := w) (s := s) (k := most) (by omega) bE.drew oE.drew c1 c3
  obtain ⟨p3, k3, rfl⟩ := own_shape T.own
  obtain ⟨p3', k3', rfl⟩ := own_shape T'.own
  obtain ⟨p3'', k3'', rfl⟩ := own_shape T''.own
  have e1 : (appOp _ _ _).run Try.prog _ = _ := T.r1
  have e2 : (appOp _ _ _).run Try.prog _ = _ := T.r2
  have e3 : (appOp _ _ _).run Try.prog _ = _ := T.r3
  have e1' : (appOp _ _ _).run Try.prog _ = _ := T'.r1
  have e2' : (appOp _ _ _).run Try.prog _ = _ := T'.r2
  have e3' : (appOp _ _ _).run Try.prog _ = _ := T'.r3
  have e1'' : (appOp _ _ _).run Try.prog _ = _ := T''.r1
  have e2'' : (appOp _ _ _).run Try.prog _ = _ := T''.r2
  have e3'' : (appOp _ _ _).run Try.prog _ = _ := T''.r3
  have qd := fun (W : World) (h : Below w.heap.size w W) => ((hR'.out.keeps (S := fun _ => False) (.of_below h) id (fun _ _ => id)).blk)
  have gD := (qd _ (Below.refl w.heap.size w).drew).cell
  have gE := (qd _ bE.drew).cell
  have gO := (qd _ bO.drew).cell
  have gEO := (qd _ bEO).cell
  have gOE := (qd _ bOE).cell
  have gL := (qd _ (T''.b1.alloc T''.b1.size (.cells #[.string s, .int .u64 most] 40))).cell
  have g1 := (qd _ T.b1).cell
  have g2 := (qd _ T.b2).cell
  have g3 := (qd _ T.b3).cell
  have f3 := (qd _ T.b3).frozen
  have g1' := (qd _ T'.b1).cell
  have g2' := (qd _ T'.b2).cell
  have g3' := (qd _ T'.b3).cell
  have f3' := (qd _ T'.b3).frozen
  have g1'' := (qd _ T''.b1).cell
  have g2'' := (qd _ T''.b2).cell
  have g3'' := (qd _ T''.b3).cell
  have f3'' := (qd _ T''.b3).frozen
  have z1'' : g < w1''.heap.size := Nat.lt_of_lt_of_le hgw T''.b1.size
  have D := Lib.hid T
  have D' := Lib.hid T'
  have D'' := Lib.hid T''
  clear T T' T'' oE oE2 hbO bE bO bEO bOE c1 c3 qd
  go_wp2_with fail
  go_region
  all_goals
    clear e1 e2 e3 e1' e2' e3' e1'' e2'' e3'' g1 g2 g3 g1' g2' g3' g1'' g2'' g3'' gD gE gO gEO gOE gL f3 f3' f3'' qc hgf
    go_wp2
    go_ret
    first
      | (obtain ⟨h1, h2, h3⟩ := at_end (i := 0) hR'.out (Below.refl _ _) hB hg (Nat.zero_le _) D.out.b3 (by simp) D.out.own; exact ⟨0, _, _, _, rfl, hA'.out, at_len [] s most (Nat.zero_le _), at_mem [] s most _, h1, h2, .inr h3⟩)
      | (obtain ⟨h1, h2, h3⟩ := at_end (i := 0) hR'.out (Below.refl _ _) hB hg (Nat.zero_le _) D'.out.b3 (by simp) D'.out.own; exact ⟨0, _, _, _, rfl, hA'.out, at_len [] s most (Nat.zero_le _), at_mem [] s most _, h1, h2, .inr h3⟩)
      | (obtain ⟨h1, h2, h3⟩ := at_end (i := 0) hR'.out (Below.refl _ _) hB hg (Nat.zero_le _) D''.out.b3 (by simp) D''.out.own; exact ⟨0, _, _, _, rfl, hA'.out, at_len [] s most (Nat.zero_le _), at_mem [] s most _, h1, h2, .inr h3⟩)
end Go.Proofs.Ytgclancneohpbaa
