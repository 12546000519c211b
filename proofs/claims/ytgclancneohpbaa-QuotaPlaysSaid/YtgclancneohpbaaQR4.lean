/- Walk: the document's quota: at. -/
import Derived.Test.YtgclancneohpbaaQR3
import Derived.Sort.Walk0
namespace Go.Proofs.Ytgclancneohpbaa
open Go.RowKit
attribute [local go_sem ↓] app_op
theorem less_lt (a b : ByteArray) : Op.bytesLess a.toList b.toList = decide (a.data.toList < b.data.toList) := by
  rw [bytesLess_eq, Lib.toList_data, Lib.toList_data]
/-- what 'at' leaves -/
def AtPost (w : World) (B g : Nat) (v : Value) (r : RQ) (s : ByteArray) (e : Ending) (w' : World) : Prop :=
  ∃ (i : Nat) (cs' : List (ByteArray × Nat)) (c : ByteArray × Nat) (v' : Value), e = .returned (.int .i64 i) ∧ AtIs r.cs r.most s.data.toList cs' i c ∧ cs'.length ≤ r.cs.length + 1 ∧ (∀ d ∈ cs', d ∈ r.cs ∨ d.2 = r.most) ∧ Rat w' B g v' { r with cs := cs' } ∧ Keeps (fun k => k = g) w w' ∧ (v' = v ∨ ∀ k, v'.ownBlock = some k → w.heap.size ≤ k)
set_option maxHeartbeats 4000000 in
set_option maxRecDepth 100000 in
theorem at_some (r : RQ) (B g b cap : Nat) (s : ByteArray) (w : World) (hr : Rat w B g (.slice (some ⟨b, 0, none⟩) r.cs.length cap) r) (hk : Rok r) (hs : sorted r.cs) (hB : B ≤ w.heap.size) :
    Calls Try.prog 43 #[.pointer (some ⟨g, 0, none⟩), .string s] w (AtPost w B g (.slice (some ⟨b, 0, none⟩) r.cs.length cap) r s) := by
  have hlen := hk.len
  have hmost := hk.most
  have qc := hr.blk.cell
  have hr' := Lib.hid hr
  have hg := hr.blk.lt
  clear hr
  go_enter Try.func43, Try.ntmps43
  go_wp2_with fail
  go_loopw [13] (fun i wr => ∃ k : Nat, k ≤ r.cs.length ∧ i = .int .i64 k ∧ (∀ j c, j < k → r.cs[j]? = some c → nm c ≠ s.data.toList) ∧ Below w.heap.size w wr) (fun i _ => r.cs.length - (intOf i).toNat)
  case atStart => exact ⟨0, Nat.zero_le _, rfl, fun j c hj => absurd hj (by omega), Below.refl _ _⟩
  case round =>
    obtain ⟨k, hk1, rfl, hall, hB1⟩ := hrel
    have hall' := Lib.hid hall
    clear hall qc
    have hR := hr'.out.keeps (S := fun _ => False) (.of_below hB1) id (fun _ _ => id)
    have qc := hR.blk.cell
    have hz := hB1.size
    by_cases hlt : k < r.cs.length
    · obtain ⟨c, hc⟩ : ∃ c, r.cs[k]? = some c := ⟨_, List.getElem?_eq_getElem hlt⟩
      obtain ⟨d0, d1⟩ := rcells_at _ k c hc
      have a0 := (hR.own.cellAt (k * 2) (by omega)).trans d0
      have a1 := (hR.own.cellAt (k * 2 + 1) (by omega)).trans d1
      have hc' := Lib.hid hc
      clear d0 d1 hc
      by_cases he : c.1.toList == s.toList
      · have hn : nm c = s.data.toList := by
          show c.1.data.toList = _
          rw [← Lib.toList_data, ← Lib.toList_data]
          simpa using he
        have hR2 := hr'.out.keeps (S := fun _ => False) (.of_below (hB1.alloc hz (.cells #[.string c.1, .int .u64 c.2] 40))) id (fun _ _ => id)
        have hA := at_found r.most hs hc'.out
        rw [hn] at hA
        have hA' := Lib.hid hA
        have hR2' := Lib.hid hR2
        clear hA hR2 hR
        go_wp2
        go_ret
        exact ⟨k, r.cs, c, _, rfl, hA'.out, by omega, fun d hd => .inl hd, hR2'.out, .of_below (hB1.alloc hz _), .inl rfl⟩
      · have he' : (c.1.toList == s.toList) = false := by simpa using he
        have hn : nm c ≠ s.data.toList := by
          show c.1.data.toList ≠ _
          rw [← Lib.toList_data, ← Lib.toList_data]
          intro e
          rw [e] at he
          simp at he
        have hall2 : ∀ j d, j < k + 1 → r.cs[j]? = some d → nm d ≠ s.data.toList := by
          intro j d hj hd
          by_cases e : j = k
          · subst e
            rw [hc'.out] at hd
            obtain rfl := Option.some.inj hd
            exact hn
          · exact hall'.out j d (by omega) hd
        have hall2' := Lib.hid hall2
        clear hall2 hR hn he
        go_wp2
        go_roundw
        case rel => exact ⟨k + 1, by omega, by go_num, hall2'.out, hB1.alloc hz _⟩
        case measure => simp [intOf]; omega
    · have hno : ∀ c ∈ r.cs, nm c ≠ s.data.toList := by
        intro c hc
        obtain ⟨j, hj⟩ := List.getElem?_of_mem hc
        exact hall'.out j c (by have := (List.getElem?_eq_some_iff.1 hj).1; omega) hj
      have hno' := Lib.hid hno
      have hR' := Lib.hid hR
      clear hno hall' hR
      go_wp2_with fail
      go_loop [7] (fun i => ∃ k : Nat, k ≤ r.cs.length ∧ i = .int .i64 k ∧ (∀ j c, j < k → r.cs[j]? = some c → nm c < s.data.toList)) (fun i => r.cs.length - (intOf i).toNat)
      case atStart => exact ⟨0, Nat.zero_le _, rfl, fun j c hj => absurd hj (by omega)⟩
      case round =>
        obtain ⟨i, hi, rfl, hle⟩ := hrel
        have hle' := Lib.hid hle
        clear hle
        have hex : (∃ c, i < r.cs.length ∧ r.cs[i]? = some c ∧ wr.cell? ⟨b, i * 2, none⟩ = some (.string c.1) ∧ Op.bytesLess c.1.toList s.toList = true) ∨ ((∀ c, r.cs[i]? = some c → ¬ nm c < s.data.toList) ∧ ((∃ c, i < r.cs.length ∧ r.cs[i]? = some c ∧ wr.cell? ⟨b, i * 2, none⟩ = some (.string c.1) ∧ Op.bytesLess c.1.toList s.toList = false) ∨ i = r.cs.length)) := by
          by_cases hil : i < r.cs.length
          · obtain ⟨c, hc⟩ : ∃ c, r.cs[i]? = some c := ⟨_, List.getElem?_eq_getElem hil⟩
            have hR := hR'.out
            obtain ⟨d0, d1⟩ := rcells_at _ i c hc
            have a0 := (hR.own.cellAt (i * 2) (by omega)).trans d0
            cases hl : Op.bytesLess c.1.toList s.toList
            · refine .inr ⟨fun d hd => ?_, .inl ⟨c, hil, hc, a0, hl⟩⟩
              rw [hc] at hd
              obtain rfl := Option.some.inj hd
              rw [less_lt] at hl
              exact of_decide_eq_false hl
            · exact .inl ⟨c, hil, hc, a0, hl⟩
          · obtain rfl : i = r.cs.length := by omega
            exact .inr ⟨fun d hd => by have := (List.getElem?_eq_some_iff.1 hd).1; omega, .inr rfl⟩
        rcases hex with ⟨c, hil, hc, a0, hl⟩ | ⟨hnl, hex⟩
        · have hle2 : ∀ j d, j < i + 1 → r.cs[j]? = some d → nm d < s.data.toList := by
            intro j d hj hd
            by_cases e : j = i
            · subst e
              rw [hc] at hd
              obtain rfl := Option.some.inj hd
              rw [less_lt] at hl
              exact of_decide_eq_true hl
            · exact hle'.out j d (by omega) hd
          have hle2' := Lib.hid hle2
          clear hle2 hc
          go_wp2
          go_round
          case rel => exact ⟨i + 1, by omega, by go_num, hle2'.out⟩
          case measure => simp [intOf]; omega
        · have hA := at_put r.most s hs hno'.out hi hle'.out hnl
          have hA' := Lib.hid hA
          clear hA hnl
          rcases hex with ⟨c, hil, hc, a0, hl⟩ | rfl
          · have hgf := hR'.out.blk.frozen
            have hown := hR'.out.own
            have hgw : g < wr.heap.size := by omega
            have hicap : r.cs.length ≤ cap ∧ cap ≤ maxLen := by
              obtain ⟨_, ⟨h1, _⟩ | ⟨b', cap', cur, h1, _, _, h2, h3, _⟩⟩ := hown
              · cases h1
              · simp at h1; rw [h1.2]; exact ⟨h2, h3⟩
            have hcapm := hicap.2
            have hcapn := hicap.1
            have hicap1 : i ≤ cap := by omega
            have hicap2 : ¬ cap = i := by omega
            have hgne : g ≠ wr.heap.size := by omega
            unfold maxLen at hcapm
            have c1 := can_row hown 0 i cap (by omega) (by omega) rfl
            have c3 := can_row hown i (r.cs.length - i) (cap - i) (by omega) (by omega) rfl
            rw [List.drop_zero, Nat.zero_mul] at c1
            rw [List.take_of_length_le (by rw [List.length_drop]; omega)] at c3
            have bE := (Below.refl wr.heap.size wr).alloc (Nat.le_refl _) (.cells #[] 40)
            have bO := (Below.refl wr.heap.size wr).alloc (Nat.le_refl _) (.cells #[.string s, .int .u64 r.most] 40)
            have bEO := (bE.alloc (by simp) (.cells #[.string s, .int .u64 r.most] 40)).drew
            have bOE := (bO.alloc (by simp) (.cells #[] 40)).drew
            have oE : (wr.alloc (.cells #[] 40)).ownsRow wr.heap.size 40 2 (.slice (some ⟨wr.heap.size, 0, none⟩) 0 0) 0 [] := World.ownsRow_lit wr #[] 0 (Nat.le_refl _) (by unfold maxLen; omega) rfl
            have oE2 := World.ownsRow_lit (base := wr.heap.size) (e := 40) (size := 2) (wr.alloc (.cells #[.string s, .int .u64 r.most] 40)) #[] 0 (by simp) (by unfold maxLen; omega) rfl
            rw [World.size_alloc] at oE2
            have hbO := Blk.new (wr.alloc (.cells #[] 40)) 40 #[.string s, .int .u64 r.most]
            rw [World.size_alloc] at hbO
            obtain ⟨v1, v2, v3, w1, w2, w3, T⟩ := three_one (Wd := wr) (by omega) bEO ((oE.alloc (.cells #[.string s, .int .u64 r.most] 40)).drew) c1 c3 hbO.drew (by simp [Value.ownBlock])
            obtain ⟨v1', v2', v3', w1', w2', w3', T'⟩ := three_one (Wd := wr) (by omega) bOE oE2.drew c1 c3 (((Blk.new wr 40 #[.string s, .int .u64 r.most]).alloc (.cells #[] 40)).drew) (by simp [Value.ownBlock])
            obtain ⟨v1'', v2'', v3'', w1'', w2'', w3'', T''⟩ := three_late (Wd := wr) (s := s) (k := r.most) (by omega) bE.drew oE.drew c1 c3
            obtain ⟨p3, k3, rfl⟩ := own_shape T.own
            obtain ⟨p3', k3', rfl⟩ := own_shape T'.own
            obtain ⟨p3'', k3'', rfl⟩ := own_shape T''.own
            have e1 : (appOp _ _ _).run Try.prog _ = _ := T.r1
            have e2 : (appOp _ _ _).run Try.prog _ = _ := T.r2
            have e3 : (appOp _ _ _).run Try.prog _ = _ := T.r3
            have e1' : (appOp _ _ _).run Try.prog _ = _ := T'.r1
            have e2' : (appOp _ _ _).run Try.prog _ = _ := T'.r2
            have e3' : (appOp _ _ _).run Try.prog _ = _ := T'.r3
            have e1'' : (appOp _ _ _).run Try.prog _ = _ := T''.r1
            have e2'' : (appOp _ _ _).run Try.prog _ = _ := T''.r2
            have e3'' : (appOp _ _ _).run Try.prog _ = _ := T''.r3
            have qd := fun (W : World) (h : Below wr.heap.size wr W) => ((hR'.out.keeps (S := fun _ => False) (.of_below h) id (fun _ _ => id)).blk)
            have gD := (qd _ (Below.refl wr.heap.size wr).drew).cell
            have gE := (qd _ bE.drew).cell
            have gO := (qd _ bO.drew).cell
            have gEO := (qd _ bEO).cell
            have gOE := (qd _ bOE).cell
            have gL := (qd _ (T''.b1.alloc T''.b1.size (.cells #[.string s, .int .u64 r.most] 40))).cell
            have g1 := (qd _ T.b1).cell
            have g2 := (qd _ T.b2).cell
            have g3 := (qd _ T.b3).cell
            have f3 := (qd _ T.b3).frozen
            have g1' := (qd _ T'.b1).cell
            have g2' := (qd _ T'.b2).cell
            have g3' := (qd _ T'.b3).cell
            have f3' := (qd _ T'.b3).frozen
            have g1'' := (qd _ T''.b1).cell
            have g2'' := (qd _ T''.b2).cell
            have g3'' := (qd _ T''.b3).cell
            have f3'' := (qd _ T''.b3).frozen
            have z1'' : g < w1''.heap.size := Nat.lt_of_lt_of_le hgw T''.b1.size
            have D := Lib.hid T
            have D' := Lib.hid T'
            have D'' := Lib.hid T''
            clear T T' T'' oE oE2 hbO bE bO bEO bOE c1 c3 qd hicap hown
            go_wp2_with fail
            go_region
            all_goals
              clear e1 e2 e3 e1' e2' e3' e1'' e2'' e3'' g1 g2 g3 g1' g2' g3' g1'' g2'' g3'' gD gE gO gEO gOE gL f3 f3' f3'' qc hgf
              go_wp2
              go_ret
              first
                | (obtain ⟨h1, h2, h3⟩ := at_end hR'.out hB1 hB hg hi D.out.b3 rfl D.out.own; exact ⟨_, _, _, _, rfl, hA'.out, at_len r.cs s r.most hi, at_mem r.cs s r.most _, h1, h2, .inr h3⟩)
                | (obtain ⟨h1, h2, h3⟩ := at_end hR'.out hB1 hB hg hi D'.out.b3 rfl D'.out.own; exact ⟨_, _, _, _, rfl, hA'.out, at_len r.cs s r.most hi, at_mem r.cs s r.most _, h1, h2, .inr h3⟩)
                | (obtain ⟨h1, h2, h3⟩ := at_end hR'.out hB1 hB hg hi D''.out.b3 rfl D''.out.own; exact ⟨_, _, _, _, rfl, hA'.out, at_len r.cs s r.most hi, at_mem r.cs s r.most _, h1, h2, .inr h3⟩)
          · have hdr : rcells (r.cs.drop r.cs.length) = [] := by rw [List.drop_length]; rfl
            by_cases hcn : cap = r.cs.length
            · subst hcn
              have hgf := hR'.out.blk.frozen
              have hown := hR'.out.own
              have hgw : g < wr.heap.size := by omega
              have hicap : r.cs.length ≤ r.cs.length ∧ r.cs.length ≤ maxLen := by
                obtain ⟨_, ⟨h1, _⟩ | ⟨b', cap', cur, h1, _, _, h2, h3, _⟩⟩ := hown
                · cases h1
                · simp at h1; exact ⟨Nat.le_refl _, by rw [h1.2]; exact h3⟩
              have hcapm := hicap.2
              have hcapn := hicap.1
              have hicap1 : r.cs.length ≤ r.cs.length := Nat.le_refl _
              have hgne : g ≠ wr.heap.size := by omega
              unfold maxLen at hcapm
              have c1 := can_row hown 0 r.cs.length r.cs.length (by omega) (by omega) rfl
              have c3 := can_zero (Wd := wr) ⟨b, 0, none⟩ 0
              rw [← hdr] at c3
              rw [List.drop_zero, Nat.zero_mul] at c1
              have bE := (Below.refl wr.heap.size wr).alloc (Nat.le_refl _) (.cells #[] 40)
              have bO := (Below.refl wr.heap.size wr).alloc (Nat.le_refl _) (.cells #[.string s, .int .u64 r.most] 40)
              have bEO := (bE.alloc (by simp) (.cells #[.string s, .int .u64 r.most] 40)).drew
              have bOE := (bO.alloc (by simp) (.cells #[] 40)).drew
              have oE : (wr.alloc (.cells #[] 40)).ownsRow wr.heap.size 40 2 (.slice (some ⟨wr.heap.size, 0, none⟩) 0 0) 0 [] := World.ownsRow_lit wr #[] 0 (Nat.le_refl _) (by unfold maxLen; omega) rfl
              have oE2 := World.ownsRow_lit (base := wr.heap.size) (e := 40) (size := 2) (wr.alloc (.cells #[.string s, .int .u64 r.most] 40)) #[] 0 (by simp) (by unfold maxLen; omega) rfl
              rw [World.size_alloc] at oE2
              have hbO := Blk.new (wr.alloc (.cells #[] 40)) 40 #[.string s, .int .u64 r.most]
              rw [World.size_alloc] at hbO
              obtain ⟨v1, v2, v3, w1, w2, w3, T⟩ := three_one (Wd := wr) (by omega) bEO ((oE.alloc (.cells #[.string s, .int .u64 r.most] 40)).drew) c1 c3 hbO.drew (by simp [Value.ownBlock])
              obtain ⟨v1', v2', v3', w1', w2', w3', T'⟩ := three_one (Wd := wr) (by omega) bOE oE2.drew c1 c3 (((Blk.new wr 40 #[.string s, .int .u64 r.most]).alloc (.cells #[] 40)).drew) (by simp [Value.ownBlock])
              obtain ⟨v1'', v2'', v3'', w1'', w2'', w3'', T''⟩ := three_late (Wd := wr) (s := s) (k := r.most) (by omega) bE.drew oE.drew c1 c3
              obtain ⟨p3, k3, rfl⟩ := own_shape T.own
              obtain ⟨p3', k3', rfl⟩ := own_shape T'.own
              obtain ⟨p3'', k3'', rfl⟩ := own_shape T''.own
              have e1 : (appOp _ _ _).run Try.prog _ = _ := T.r1
              have e2 : (appOp _ _ _).run Try.prog _ = _ := T.r2
              have e3 : (appOp _ _ _).run Try.prog _ = _ := T.r3
              have e1' : (appOp _ _ _).run Try.prog _ = _ := T'.r1
              have e2' : (appOp _ _ _).run Try.prog _ = _ := T'.r2
              have e3' : (appOp _ _ _).run Try.prog _ = _ := T'.r3
              have e1'' : (appOp _ _ _).run Try.prog _ = _ := T''.r1
              have e2'' : (appOp _ _ _).run Try.prog _ = _ := T''.r2
              have e3'' : (appOp _ _ _).run Try.prog _ = _ := T''.r3
              have qd := fun (W : World) (h : Below wr.heap.size wr W) => ((hR'.out.keeps (S := fun _ => False) (.of_below h) id (fun _ _ => id)).blk)
              have gD := (qd _ (Below.refl wr.heap.size wr).drew).cell
              have gE := (qd _ bE.drew).cell
              have gO := (qd _ bO.drew).cell
              have gEO := (qd _ bEO).cell
              have gOE := (qd _ bOE).cell
              have gL := (qd _ (T''.b1.alloc T''.b1.size (.cells #[.string s, .int .u64 r.most] 40))).cell
              have g1 := (qd _ T.b1).cell
              have g2 := (qd _ T.b2).cell
              have g3 := (qd _ T.b3).cell
              have f3 := (qd _ T.b3).frozen
              have g1' := (qd _ T'.b1).cell
              have g2' := (qd _ T'.b2).cell
              have g3' := (qd _ T'.b3).cell
              have f3' := (qd _ T'.b3).frozen
              have g1'' := (qd _ T''.b1).cell
              have g2'' := (qd _ T''.b2).cell
              have g3'' := (qd _ T''.b3).cell
              have f3'' := (qd _ T''.b3).frozen
              have z1'' : g < w1''.heap.size := Nat.lt_of_lt_of_le hgw T''.b1.size
              have D := Lib.hid T
              have D' := Lib.hid T'
              have D'' := Lib.hid T''
              clear T T' T'' oE oE2 hbO bE bO bEO bOE c1 c3 qd hicap hown
              go_wp2_with fail
              go_region
              all_goals
                clear e1 e2 e3 e1' e2' e3' e1'' e2'' e3'' g1 g2 g3 g1' g2' g3' g1'' g2'' g3'' gD gE gO gEO gOE gL f3 f3' f3'' qc hgf
                go_wp2
                go_ret
                first
                  | (obtain ⟨h1, h2, h3⟩ := at_end hR'.out hB1 hB hg hi D.out.b3 (by omega) D.out.own; exact ⟨_, _, _, _, rfl, hA'.out, at_len r.cs s r.most hi, at_mem r.cs s r.most _, h1, h2, .inr h3⟩)
                  | (obtain ⟨h1, h2, h3⟩ := at_end hR'.out hB1 hB hg hi D'.out.b3 (by omega) D'.out.own; exact ⟨_, _, _, _, rfl, hA'.out, at_len r.cs s r.most hi, at_mem r.cs s r.most _, h1, h2, .inr h3⟩)
                  | (obtain ⟨h1, h2, h3⟩ := at_end hR'.out hB1 hB hg hi D''.out.b3 (by omega) D''.out.own; exact ⟨_, _, _, _, rfl, hA'.out, at_len r.cs s r.most hi, at_mem r.cs s r.most _, h1, h2, .inr h3⟩)
            · have hgf := hR'.out.blk.frozen
              have hown := hR'.out.own
              have hgw : g < wr.heap.size := by omega
              have hicap : r.cs.length ≤ cap ∧ cap ≤ maxLen := by
                obtain ⟨_, ⟨h1, _⟩ | ⟨b', cap', cur, h1, _, _, h2, h3, _⟩⟩ := hown
                · cases h1
                · simp at h1; rw [h1.2]; exact ⟨h2, h3⟩
              have hcapm := hicap.2
              have hcapn := hicap.1
              have hicap1 : r.cs.length ≤ cap := hicap.1
              have hgne : g ≠ wr.heap.size := by omega
              unfold maxLen at hcapm
              have c1 := can_row hown 0 r.cs.length cap (by omega) (by omega) rfl
              have c3 := can_zero (Wd := wr) ⟨b, r.cs.length * 2, none⟩ (cap - r.cs.length)
              rw [← hdr] at c3
              rw [List.drop_zero, Nat.zero_mul] at c1
              have bE := (Below.refl wr.heap.size wr).alloc (Nat.le_refl _) (.cells #[] 40)
              have bO := (Below.refl wr.heap.size wr).alloc (Nat.le_refl _) (.cells #[.string s, .int .u64 r.most] 40)
              have bEO := (bE.alloc (by simp) (.cells #[.string s, .int .u64 r.most] 40)).drew
              have bOE := (bO.alloc (by simp) (.cells #[] 40)).drew
              have oE : (wr.alloc (.cells #[] 40)).ownsRow wr.heap.size 40 2 (.slice (some ⟨wr.heap.size, 0, none⟩) 0 0) 0 [] := World.ownsRow_lit wr #[] 0 (Nat.le_refl _) (by unfold maxLen; omega) rfl
              have oE2 := World.ownsRow_lit (base := wr.heap.size) (e := 40) (size := 2) (wr.alloc (.cells #[.string s, .int .u64 r.most] 40)) #[] 0 (by simp) (by unfold maxLen; omega) rfl
              rw [World.size_alloc] at oE2
              have hbO := Blk.new (wr.alloc (.cells #[] 40)) 40 #[.string s, .int .u64 r.most]
              rw [World.size_alloc] at hbO
              obtain ⟨v1, v2, v3, w1, w2, w3, T⟩ := three_one (Wd := wr) (by omega) bEO ((oE.alloc (.cells #[.string s, .int .u64 r.most] 40)).drew) c1 c3 hbO.drew (by simp [Value.ownBlock])
              obtain ⟨v1', v2', v3', w1', w2', w3', T'⟩ := three_one (Wd := wr) (by omega) bOE oE2.drew c1 c3 (((Blk.new wr 40 #[.string s, .int .u64 r.most]).alloc (.cells #[] 40)).drew) (by simp [Value.ownBlock])
              obtain ⟨v1'', v2'', v3'', w1'', w2'', w3'', T''⟩ := three_late (Wd := wr) (s := s) (k := r.most) (by omega) bE.drew oE.drew c1 c3
              obtain ⟨p3, k3, rfl⟩ := own_shape T.own
              obtain ⟨p3', k3', rfl⟩ := own_shape T'.own
              obtain ⟨p3'', k3'', rfl⟩ := own_shape T''.own
              have e1 : (appOp _ _ _).run Try.prog _ = _ := T.r1
              have e2 : (appOp _ _ _).run Try.prog _ = _ := T.r2
              have e3 : (appOp _ _ _).run Try.prog _ = _ := T.r3
              have e1' : (appOp _ _ _).run Try.prog _ = _ := T'.r1
              have e2' : (appOp _ _ _).run Try.prog _ = _ := T'.r2
              have e3' : (appOp _ _ _).run Try.prog _ = _ := T'.r3
              have e1'' : (appOp _ _ _).run Try.prog _ = _ := T''.r1
              have e2'' : (appOp _ _ _).run Try.prog _ = _ := T''.r2
              have e3'' : (appOp _ _ _).run Try.prog _ = _ := T''.r3
              have qd := fun (W : World) (h : Below wr.heap.size wr W) => ((hR'.out.keeps (S := fun _ => False) (.of_below h) id (fun _ _ => id)).blk)
              have gD := (qd _ (Below.refl wr.heap.size wr).drew).cell
              have gE := (qd _ bE.drew).cell
              have gO := (qd _ bO.drew).cell
              have gEO := (qd _ bEO).cell
              have gOE := (qd _ bOE).cell
              have gL := (qd _ (T''.b1.alloc T''.b1.size (.cells #[.string s, .int .u64 r.most] 40))).cell
              have g1 := (qd _ T.b1).cell
              have g2 := (qd _ T.b2).cell
              have g3 := (qd _ T.b3).cell
              have f3 := (qd _ T.b3).frozen
              have g1' := (qd _ T'.b1).cell
              have g2' := (qd _ T'.b2).cell
              have g3' := (qd _ T'.b3).cell
              have f3' := (qd _ T'.b3).frozen
              have g1'' := (qd _ T''.b1).cell
              have g2'' := (qd _ T''.b2).cell
              have g3'' := (qd _ T''.b3).cell
              have f3'' := (qd _ T''.b3).frozen
              have z1'' : g < w1''.heap.size := Nat.lt_of_lt_of_le hgw T''.b1.size
              have D := Lib.hid T
              have D' := Lib.hid T'
              have D'' := Lib.hid T''
              clear T T' T'' oE oE2 hbO bE bO bEO bOE c1 c3 qd hicap hown
              go_wp2_with fail
              go_region
              all_goals
                clear e1 e2 e3 e1' e2' e3' e1'' e2'' e3'' g1 g2 g3 g1' g2' g3' g1'' g2'' g3'' gD gE gO gEO gOE gL f3 f3' f3'' qc hgf
                go_wp2
                go_ret
                first
                  | (obtain ⟨h1, h2, h3⟩ := at_end hR'.out hB1 hB hg hi D.out.b3 (by omega) D.out.own; exact ⟨_, _, _, _, rfl, hA'.out, at_len r.cs s r.most hi, at_mem r.cs s r.most _, h1, h2, .inr h3⟩)
                  | (obtain ⟨h1, h2, h3⟩ := at_end hR'.out hB1 hB hg hi D'.out.b3 (by omega) D'.out.own; exact ⟨_, _, _, _, rfl, hA'.out, at_len r.cs s r.most hi, at_mem r.cs s r.most _, h1, h2, .inr h3⟩)
                  | (obtain ⟨h1, h2, h3⟩ := at_end hR'.out hB1 hB hg hi D''.out.b3 (by omega) D''.out.own; exact ⟨_, _, _, _, rfl, hA'.out, at_len r.cs s r.most hi, at_mem r.cs s r.most _, h1, h2, .inr h3⟩)
end Go.Proofs.Ytgclancneohpbaa
