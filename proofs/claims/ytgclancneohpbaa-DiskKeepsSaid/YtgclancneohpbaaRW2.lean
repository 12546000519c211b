/- Walks: the document's disk: set, done. -/
import Derived.Test.YtgclancneohpbaaRW1
namespace Go.Proofs.Ytgclancneohpbaa
open Go.RowKit Go.Maps Go.Shelf
attribute [local go_sem ↓] dapp_op
theorem info_name : (Try.prog.info? 108).map (fun i => (i.zero, i.size, i.bytes)) = some (some (.agg #[.string ⟨#[]⟩, .int .i64 0]), 2, 24) := by kernel_rfl
theorem addr_at (o j : Nat) : (⟨o, 0, none⟩ : Addr).add j = ⟨o, j, none⟩ := by
  unfold Addr.add
  split
  · rename_i h0; subst h0; rfl
  · simp
/-- what is left when a name is put behind the others -/
structure NPush (w : World) (base : Nat) (v : Value) (d : RDir) (s : List UInt8) (f o : Nat) (p : Option Addr) (c : Nat) (w' : World) : Prop where
  run : (dappOp #[103, 103] 103 #[v, .slice (some ⟨o, 0, none⟩) 1 1]).run Try.prog w = .ok (.slice p (d.length + 1) c) w'
  own : w'.ownsRow base 108 2 (.slice p (d.length + 1) c) (d.length + 1) (ncells (d ++ [(s, f)]))
  grow : w.grownBy w' v.ownBlock
theorem npush {w : World} {base : Nat} {v : Value} {d : RDir} (h : w.ownsRow base 108 2 v d.length (ncells d)) (hd : d.length ≤ 1000000) (hb : base ≤ w.heap.size) {o f : Nat} {s : List UInt8} (ho : Blk w o 108 #[strV s, .int .i64 f]) : ∃ p c w', NPush w base v d s f o p c w' := by
  obtain ⟨i0, hi, hz0, hz1, hz2⟩ := info_parts info_name
  obtain ⟨v', w', h2, h3, h4, _, h5⟩ := run_append_own_at (P := Try.prog) w base 103 103 108 i0 (.agg #[.string ⟨#[]⟩, .int .i64 0]) 2 24 Try.underlying103 hi hz0 hz1 hz2 rfl (by decide) v d.length _ h ⟨o, 0, none⟩ 1 1 [strV s, .int .i64 f] rfl (by
      intro j u hj
      rw [addr_at, ho.cell j, ← hj]
      simp) (by
      intro u hu
      simp at hu
      rcases hu with rfl | rfl <;> rfl) (by unfold maxLen; omega) (by omega) hb
  obtain ⟨p, c, rfl⟩ := own_slice h3
  exact ⟨p, c, w', h2, by rw [ncells_app]; exact h3, h4⟩
theorem NPush.below {w w' : World} {base : Nat} {v : Value} {d : RDir} {s : List UInt8} {f o c : Nat} {p : Option Addr} (h : NPush w base v d s f o p c w') (ho : w.ownsRow base 108 2 v d.length (ncells d)) (hb : base ≤ w.heap.size) : Below base w w' :=
  (Keeps.refl (fun k => v.ownBlock = some k) w |>.grown h.grow (fun k e => .inl (by rw [e]))).below (fun k _ e => (ho.lt k e).1) hb
/-- what set leaves -/
def SetPost (w : World) (R : RDir) (e : Ending) (w' : World) : Prop := ∃ v, e = .returned v ∧ DirAt w' v R ∧ (∀ g, v.ownBlock = some g → w.heap.size ≤ g) ∧ Below w.heap.size w w'
theorem rput_step (s : List UInt8) (f : Nat) (dn : Bool) {d : RDir} {k : Nat} {n : List UInt8 × Nat} (h : d[k]? = some n) : rput s f dn (d.drop k) = (if !dn && decide (s < n.1) then [(s, f)] else []) ++ ((if n.1 = s then [] else [n]) ++ rput s f (dn || decide (s < n.1)) (d.drop (k + 1))) := by
  have hk : k < d.length := (List.getElem?_eq_some_iff.1 h).1
  have : d[k] = n := by rw [List.getElem?_eq_getElem hk] at h; exact Option.some.inj h
  rw [List.drop_eq_getElem_cons hk, this]; rfl
theorem rput_skip {s : List UInt8} {f : Nat} {dn : Bool} {d o R : RDir} {k : Nat} {n : List UInt8 × Nat} (hn : d[k]? = some n) (ha : (!dn && decide (s < n.1)) = false) (he : n.1 = s) (h : o ++ rput s f dn (d.drop k) = R) : o ++ rput s f dn (d.drop (k + 1)) = R := by
  rw [rput_step s f dn hn, ha, if_pos he] at h
  have e : (dn || decide (s < n.1)) = dn := by rw [he, decide_eq_false (lt_irr s), Bool.or_false]
  rw [e] at h
  exact h
theorem rput_stay {s : List UInt8} {f : Nat} {dn : Bool} {d o R : RDir} {k : Nat} {n : List UInt8 × Nat} (hn : d[k]? = some n) (ha : (!dn && decide (s < n.1)) = false) (he : n.1 ≠ s) (h : o ++ rput s f dn (d.drop k) = R) : (o ++ [n]) ++ rput s f dn (d.drop (k + 1)) = R := by
  rw [rput_step s f dn hn, ha, if_neg he] at h
  have e : (dn || decide (s < n.1)) = dn := by cases dn <;> simp_all
  rw [e] at h
  rw [List.append_assoc]
  exact h
theorem rput_both {s : List UInt8} {f : Nat} {d o R : RDir} {k : Nat} {n : List UInt8 × Nat} (hn : d[k]? = some n) (ha : s < n.1) (h : o ++ rput s f false (d.drop k) = R) : ((o ++ [(s, f)]) ++ [n]) ++ rput s f true (d.drop (k + 1)) = R := by
  have he : n.1 ≠ s := fun e => by rw [e] at ha; exact lt_irr _ ha
  rw [rput_step s f false hn, if_neg he, decide_eq_true ha] at h
  rw [List.append_assoc, List.append_assoc]
  exact h
set_option maxHeartbeats 4000000 in
set_option maxRecDepth 100000 in
theorem rset_calls (v : Value) (d : RDir) (s : ByteArray) (f : Option Nat) (z : Int) (w : World) (h : DirAt w v d) (hd : d.length ≤ 100000) (hz : z = numI f) :
    Calls Try.prog 82 #[v, .string s, .int .i64 z] w (SetPost w (rset d s.data.toList f)) := by
  obtain ⟨p, c, rfl⟩ := h.slice
  have hzb : decide (z < 0) = f.isNone := by
    rw [hz]; cases f
    · rfl
    · exact decide_eq_false (by show ¬ ((_ : Nat) : Int) < 0; omega)
  have hR : rset d s.data.toList f = rput s.data.toList (f.getD 0) f.isNone d := by cases f <;> rfl
  have hzs : f.isNone = false → z = ((f.getD 0 : Nat) : Int) := by
    rw [hz]; cases f
    · intro h; cases h
    · intro _; rfl
  rw [hR]
  generalize f.isNone = b0 at *
  generalize f.getD 0 = fi at *
  have h' := Lib.hid h
  have hzs' := Lib.hid hzs
  clear h hz hR hzs
  go_enter Try.func82, Try.ntmps82
  go_wp2_with fail
  go_loopw [7, 8, 15] (fun vo dv i wr => ∃ (k : Nat) (dn : Bool) (o : RDir), k ≤ d.length ∧ i = .int .i64 k ∧ dv = .bool dn ∧ (dn = false → b0 = false) ∧ wr.ownsRow w.heap.size 108 2 vo o.length (ncells o) ∧ o ++ rput s.data.toList fi dn (d.drop k) = rput s.data.toList fi b0 d ∧ o.length ≤ 2 * k ∧ Below w.heap.size w wr) (fun _ _ i _ => d.length - (intOf i).toNat)
  case atStart => exact ⟨0, b0, [], Nat.zero_le _, rfl, rfl, id, World.ownsRow_nil _ _ _ _, rfl, Nat.le_refl _, Below.refl _ _⟩
  case round =>
    obtain ⟨k, dn, o, hk, rfl, rfl, hdn, hown, hR, hol, hB⟩ := hrel
    obtain ⟨po, co, rfl⟩ := own_slice hown
    have hR' := Lib.hid hR
    have hdn' := Lib.hid hdn
    have hown' := Lib.hid hown
    clear hR hdn hown
    have hzB := hB.size
    by_cases hlt : k < d.length
    · obtain ⟨g, c', n, t, hv, hc, hg, hdk, ht, q0, q1⟩ := (h'.out.later hB).name hlt
      obtain ⟨rfl, rfl⟩ : p = some ⟨g, 0, none⟩ ∧ c = c' := by simpa using hv
      have hdk' := Lib.hid hdk
      have ht' := Lib.hid ht
      have hse := str_eq t s
      have hne : (t.toList != s.toList) = !decide (t.data.toList = s.data.toList) := by rw [bne, hse]
      have hls := less_lt' s t
      have hBn := hB.alloc hzB (.cells #[.string t, .int .i64 n.2] 108)
      clear hdk ht hv
      have hoC := hown'.out.alloc (.cells #[.string t, .int .i64 n.2] 108)
      have hbC := Blk.new wr 108 #[.string t, .int .i64 n.2]
      have hcase : ((!dn && decide (s.data.toList < n.1)) = false ∧ (dn = false → Op.bytesLess s.toList t.toList = false)) ∨ (dn = false ∧ Op.bytesLess s.toList t.toList = true ∧ s.data.toList < n.1) := by
        rw [hls, ht'.out]
        cases dn
        · by_cases e : s.data.toList < n.1
          · exact .inr ⟨rfl, decide_eq_true e, e⟩
          · exact .inl ⟨by simp [e], fun _ => decide_eq_false e⟩
        · exact .inl ⟨rfl, fun e => by cases e⟩
      rcases hcase with ⟨ha, hb⟩ | ⟨rfl, hb, ha⟩
      · have ha' := Lib.hid ha
        clear ha hls
        cases he : decide (t.data.toList = s.data.toList)
        · rw [he] at hse hne
          have he' := Lib.hid he
          have hoD := hoC.alloc (.cells #[.string t, .int .i64 n.2] 108)
          have hbD := Blk.new (wr.alloc (.cells #[.string t, .int .i64 n.2] 108)) 108 #[.string t, .int .i64 n.2]
          rw [strV_mk] at hbD
          obtain ⟨p2, c2, w2, hp⟩ := npush hoD (by omega) (by simp; omega) hbD
          rw [← strV_mk] at hp
          have hB2 := (hBn.alloc (by simp; omega) (.cells #[.string t, .int .i64 n.2] 108)).trans (hp.below hoD (by simp; omega))
          have e1 : (dappOp _ _ _).run Try.prog _ = _ := hp.run
          simp only [World.size_alloc] at e1
          have hp' := Lib.hid hp.own
          rw [ht'.out] at hp'
          clear he hoC hoD hbC hbD hp
          cases dn
          · have hb2 := hb rfl
            clear hb
            go_wp2_with fail
            go_roundw
            case rel => exact ⟨k + 1, false, o ++ [(n.1, n.2)], by omega, by go_num, rfl, hdn'.out, by rw [List.length_append]; exact hp'.out, rput_stay hdk'.out ha'.out (by rw [← ht'.out]; exact of_decide_eq_false he'.out) hR'.out, by simp; omega, hB2⟩
            case measure => simp [intOf]; omega
          · clear hb
            go_wp2_with fail
            go_roundw
            case rel => exact ⟨k + 1, true, o ++ [(n.1, n.2)], by omega, by go_num, rfl, hdn'.out, by rw [List.length_append]; exact hp'.out, rput_stay hdk'.out ha'.out (by rw [← ht'.out]; exact of_decide_eq_false he'.out) hR'.out, by simp; omega, hB2⟩
            case measure => simp [intOf]; omega
        · rw [he] at hse hne
          have he' := Lib.hid he
          have hoC' := Lib.hid hoC
          clear he hoC hbC
          cases dn
          · have hb2 := hb rfl
            clear hb
            go_wp2_with fail
            go_roundw
            case rel => exact ⟨k + 1, false, o, by omega, by go_num, rfl, hdn'.out, hoC'.out, rput_skip hdk'.out ha'.out (by rw [← ht'.out]; exact of_decide_eq_true he'.out) hR'.out, by omega, hBn⟩
            case measure => simp [intOf]; omega
          · clear hb
            go_wp2_with fail
            go_roundw
            case rel => exact ⟨k + 1, true, o, by omega, by go_num, rfl, hdn'.out, hoC'.out, rput_skip hdk'.out ha'.out (by rw [← ht'.out]; exact of_decide_eq_true he'.out) hR'.out, by omega, hBn⟩
            case measure => simp [intOf]; omega
      · obtain rfl := hzs'.out (hdn'.out rfl)
        have hen : decide (t.data.toList = s.data.toList) = false := decide_eq_false (fun e => by rw [← ht'.out, e] at ha; exact lt_irr _ ha)
        rw [hen] at hse hne
        have hoD := hoC.alloc (.cells #[.string s, .int .i64 fi] 108)
        have hbD := Blk.new (wr.alloc (.cells #[.string t, .int .i64 n.2] 108)) 108 #[.string s, .int .i64 fi]
        rw [strV_mk] at hbD
        obtain ⟨p2, c2, w2, hp⟩ := npush hoD (by omega) (by simp; omega) hbD
        rw [← strV_mk] at hp
        have hlo := (hown'.out.lt)
        have hbC2 := (hbC.alloc (.cells #[.string s, .int .i64 fi] 108)).grown hp.grow (fun e => by have := (hlo _ e.symm).2; omega)
        have hB2 := (hBn.alloc (by simp; omega) (.cells #[.string s, .int .i64 fi] 108)).trans (hp.below hoD (by simp; omega))
        have e1 : (dappOp _ _ _).run Try.prog _ = _ := hp.run
        simp only [World.size_alloc] at e1
        have hpo := hp.own
        have hz2 := hB2.size
        have hoE := hpo.alloc (.cells #[.string t, .int .i64 n.2] 108)
        have hbE := Blk.new w2 108 #[.string t, .int .i64 n.2]
        rw [strV_mk] at hbE
        have hlen : o.length + 1 = (o ++ [(s.data.toList, fi)]).length := by simp
        rw [hlen] at hoE
        obtain ⟨p3, c3, w3, hq⟩ := npush hoE (by simp; omega) (by simp; omega) hbE
        have hB3 := (hB2.alloc hz2 (.cells #[.string t, .int .i64 n.2] 108)).trans (hq.below hoE (by simp; omega))
        rw [← hlen] at hq
        have e2 : (dappOp _ _ _).run Try.prog _ = _ := hq.run
        have qC := hbC2.cell
        have hq' := Lib.hid hq.own
        have ha' := Lib.hid ha
        clear hq hp hpo hoE hbE hoD hbD hoC hbC hbC2 hlen hen ha hls
        go_wp2_with fail
        go_roundw
        case rel => exact ⟨k + 1, true, (o ++ [(s.data.toList, fi)]) ++ [(n.1, n.2)], by omega, by go_num, rfl, fun e => (by cases e), by have := hq'.out; rw [ht'.out, List.length_append] at this; rw [List.length_append, List.length_append]; exact this, rput_both hdk'.out ha'.out hR'.out, by simp; omega, hB3⟩
        case measure => simp [intOf]; omega
    · have hkd : d.length ≤ k := by omega
      have hRe := hR'.out
      rw [List.drop_eq_nil_of_le hkd] at hRe
      cases dn
      · have hRe' : o ++ [(s.data.toList, fi)] = rput s.data.toList fi b0 d := hRe
        obtain rfl := hzs'.out (hdn'.out rfl)
        have hoD := hown'.out.alloc (.cells #[.string s, .int .i64 fi] 108)
        have hbD := Blk.new wr 108 #[.string s, .int .i64 fi]
        rw [strV_mk] at hbD
        obtain ⟨p2, c2, w2, hp⟩ := npush hoD (by omega) (by simp; omega) hbD
        have hB2 := (hB.alloc hzB (.cells #[.string s, .int .i64 fi] 108)).trans (hp.below hoD (by simp; omega))
        have e1 : (dappOp _ _ _).run Try.prog _ = _ := hp.run
        have hpo := hp.own
        rw [hRe'] at hpo
        have hl : o.length + 1 = (rput s.data.toList fi b0 d).length := by rw [← hRe']; simp
        rw [hl] at hpo
        have hp' := Lib.hid hpo
        have hl' := Lib.hid hl
        clear hp hbD hoD hRe hRe' hpo hl
        go_wp2_with fail
        go_ret
        have X : SetPost w (rput s.data.toList fi b0 d) (.returned (.slice p2 (o.length + 1) c2)) w2 := by
          rw [hl'.out]
          exact ⟨_, rfl, DirAt.of_own hp'.out, fun g hg => (hp'.out.lt g hg).1, hB2⟩
        exact X
      · have hRe' : o = rput s.data.toList fi b0 d := by rw [← hRe]; exact (List.append_nil o).symm
        have hRh := Lib.hid hRe'
        clear hRe hRe'
        go_wp2_with fail
        go_ret
        have ho2 := hown'.out
        exact ⟨_, rfl, by rw [← hRh.out]; exact DirAt.of_own ho2, fun g hg => (ho2.lt g hg).1, hB⟩
end Go.Proofs.Ytgclancneohpbaa
