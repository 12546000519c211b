/- Walk: schema: line, whole. Walk: schema: Parse. Walks: schema: Parse of a long text; the document's sign. Walk: the document's blank. A line that says nothing: both ways to ask are one. No program in sight. -/
import Derived.Test.YtkibaaljpbcjeaaDoorSW10
namespace Go.Proofs.YtkibaaljpbcjeaaDoor
open Go.RowKit
theorem line_calls (s : List UInt8) (B S : Nat) (v : Value) (us : List Value) (ts : List TyD) (w : World) (hs : s.length ≤ 100000) (hS : Blk w S 25 #[v]) (hB : S < B) (hBw : B ≤ w.heap.size) (h : Sch B w v us ts)
    (hts : ts.length ≤ 1000000) (hrs : ∀ t ∈ ts, t.2.length ≤ 1000000) :
    Calls Tryd.prog 17 #[.pointer (some ⟨S, 0, none⟩), strV s] w (LineSaid B S w ts s) := by
  by_cases hc : pk (rest s) = eqL ∧ ts ≠ []
  · by_cases hg : good (pk s) = true ∧ pk s ≠ typeL
    · rcases List.eq_nil_or_concat ts with e | ⟨init, ⟨n, rels⟩, e⟩
      · exact absurd e hc.2
      · rw [List.concat_eq_append] at e
        subst e
        rcases List.eq_nil_or_concat us with e | ⟨ini, u, e⟩
        · have := h.len
          rw [e, List.length_append] at this
          simp at this
        · rw [List.concat_eq_append] at e
          subst e
          exact line_rel s B S v ini u init n rels w hs hS hB hBw h (by rw [List.length_append] at hts; omega) (hrs (n, rels) (by simp)) hc.1 hg.1 hg.2
    · refine line_rel_bad s B S v us ts w hs hS hBw h hc.1 hc.2 ?_
      have e : good (pk s) = (isName (pk s) && !(pk s == thisL)) := rfl
      rw [← e]
      cases hx : good (pk s)
      · rfl
      · by_cases h2 : pk s = typeL
        · rw [h2]; rfl
        · exact absurd ⟨hx, h2⟩ hg
  · exact line_type s B S v us ts w hs hS hB hBw h hts hc
/-- how many types, and relations in one, at most -/
def Few_ (n : Nat) (ts : List TyD) : Prop := ts.length ≤ n ∧ ∀ t ∈ ts, t.2.length ≤ n
theorem lineG_few {n : Nat} {ts ts' : List TyD} {s : List UInt8} (h : Few_ n ts) (hl : lineG ts s = some ts') : Few_ (n + 1) ts' := by
  unfold lineG at hl
  split at hl
  · rename_i hc
    split at hl
    · have hadd : ∀ r, Few_ (n + 1) (addRel ts (pk s) r) := fun r => by
        rcases List.eq_nil_or_concat ts with e | ⟨init, ⟨m, rels⟩, e⟩
        · exact absurd e hc.2
        · rw [List.concat_eq_append] at e
          subst e
          have e2 : addRel (init ++ [(m, rels)]) (pk s) r = init ++ [(m, rels ++ [(pk s, r)])] := by unfold addRel; simp
          rw [e2]
          refine ⟨by have := h.1; simp at this ⊢; omega, fun t ht => ?_⟩
          rcases List.mem_append.1 ht with ht | ht
          · have := h.2 t (List.mem_append_left _ ht); omega
          · rw [List.mem_singleton.1 ht]
            have := h.2 (m, rels) (by simp)
            simp at this ⊢; omega
      split at hl
      · rw [← Option.some.inj hl]; exact hadd _
      · cases hl
    · cases hl
  · split at hl
    · rw [← Option.some.inj hl]
      refine ⟨by have := h.1; simp; omega, fun t ht => ?_⟩
      rcases List.mem_append.1 ht with ht | ht
      · have := h.2 t ht; omega
      · rw [List.mem_singleton.1 ht]; simp
    · cases hl
end Go.Proofs.YtkibaaljpbcjeaaDoor
namespace Go.Proofs.YtkibaaljpbcjeaaDoor
open Go.RowKit
/-- a line that says nothing -/
def skipL (t : List UInt8) : Bool := t.isEmpty || Lib.hasPrefix t [47, 47]
def trimB (l : List UInt8) : List UInt8 := Lib.trimS l [32, 9]
/-- what lines make of a schema, from the i-th on; none: that line is wrong -/
def parseG : List (List UInt8) → Nat → List TyD → Option (List TyD) × Int
  | [], _, ts => (some ts, 0)
  | l :: ls, i, ts => if skipL (trimB l) then parseG ls (i + 1) ts else match lineG ts (trimB l) with
    | none => (none, i + 1)
    | some ts' => parseG ls (i + 1) ts'
theorem trimB_le (l : List UInt8) : (trimB l).length ≤ l.length := by
  unfold trimB Lib.trimS Lib.trimLeftS Lib.trimRightS
  refine Nat.le_trans (List.dropWhile_suffix _).length_le ?_
  rw [List.length_reverse]
  refine Nat.le_trans (List.dropWhile_suffix _).length_le ?_
  rw [List.length_reverse]; exact Nat.le_refl _
theorem trimb_calls (s : ByteArray) (w : World) (hs : s.size ≤ 100000) : Calls Tryd.prog 15 #[.string s, .string ⟨#[32, 9]⟩] w fun e w' => e = .returned (strV (trimB s.data.toList)) ∧ Below w.heap.size w w' :=
  Tryd.strings_Trim_laid s ⟨#[32, 9]⟩ w (by omega) (by decide) blanks_ascii
def ParseSaid (w : World) (ls : List (List UInt8)) (e : Ending) (w' : World) : Prop :=
  Below w.heap.size w w' ∧ ((∃ k, parseG ls 0 [] = (none, k) ∧ e = .returned (.tuple #[.agg #[.slice none 0 0], .int .i64 k, .int .i64 9])) ∨ ∃ ts v us, parseG ls 0 [] = (some ts, 0) ∧ e = .returned (.tuple #[.agg #[v], .int .i64 0, .int .i64 0]) ∧ Sch (w.heap.size + 3) w' v us ts)
set_option maxHeartbeats 4000000 in
set_option maxRecDepth 100000 in
theorem parse_of (s : ByteArray) (ls : List ByteArray) (w : World) (hs : s.size ≤ 65536) (hls : ls.length ≤ 65537) (hlen : ∀ l ∈ ls, l.size ≤ 65536)
    (hsp : ∀ W, Below w.heap.size w W → Calls Tryd.prog 14 #[.string s, .string ⟨#[10]⟩] W fun e w' => e = .returned (.slice (some ⟨W.heap.size, 0, none⟩) ls.length ls.length) ∧ W.alloc (.cells (ls.map Value.string).toArray 9) = w') :
    Calls Tryd.prog 8 #[.string s] w (ParseSaid w (ls.map (·.data.toList))) := by
  have hsp' := Lib.hid hsp
  have hlen' := Lib.hid hlen
  clear hsp hlen
  go_enter Tryd.func8, Tryd.ntmps8
  go_wp2_with fail
  refine (hsp'.out _ (((Below.refl w.heap.size w).alloc (Nat.le_refl _) _).alloc (by simp) _)).mono ?_
  rintro e w3 ⟨rfl, e3⟩
  have hR3 := ((Blk.new w 25 #[.slice none 0 0]).alloc (.cells #[.slice none 0 0] 25)).alloc (.cells (ls.map Value.string).toArray 9)
  have hS3 := (Blk.new (w.alloc (.cells #[.slice none 0 0] 25)) 25 #[.slice none 0 0]).alloc (.cells (ls.map Value.string).toArray 9)
  have hL3 := Blk.new ((w.alloc (.cells #[.slice none 0 0] 25)).alloc (.cells #[.slice none 0 0] 25)) 9 (ls.map Value.string).toArray
  have hB3 := (((Below.refl w.heap.size w).alloc (Nat.le_refl _) (.cells #[.slice none 0 0] 25)).alloc (by simp) (.cells #[.slice none 0 0] 25)).alloc (by simp; omega) (.cells (ls.map Value.string).toArray 9)
  have hz3 : (((w.alloc (.cells #[.slice none 0 0] 25)).alloc (.cells #[.slice none 0 0] 25)).alloc (.cells (ls.map Value.string).toArray 9)).heap.size = w.heap.size + 3 := by simp
  have e3' : (((w.alloc (.cells #[.slice none 0 0] 25)).alloc (.cells #[.slice none 0 0] 25)).alloc (.cells (ls.map Value.string).toArray 9)) = w3 := e3
  rw [e3'] at hR3 hS3 hL3 hB3 hz3
  simp only [World.size_alloc] at hS3 hL3
  have hR3' := Lib.hid hR3
  have hS3' := Lib.hid hS3
  have hL3' := Lib.hid hL3
  have hB3' := Lib.hid hB3
  clear hR3 hS3 hL3 hB3 e3 e3' hsp'
  go_wp2_with fail
  go_loopw [15] (fun i wr => ∃ (k : Nat) (ts : List TyD) (v : Value) (us : List Value), k ≤ ls.length ∧ i = .int .i64 k ∧ Blk wr (w.heap.size + 1) 25 #[v] ∧ Sch (w.heap.size + 3) wr v us ts ∧ Blk wr w.heap.size 25 #[.slice none 0 0] ∧ Blk wr (w.heap.size + 2) 9 (ls.map Value.string).toArray ∧ Below w.heap.size w wr ∧ w.heap.size + 3 ≤ wr.heap.size ∧ Few_ k ts ∧ parseG ((ls.map (·.data.toList)).drop k) k ts = parseG (ls.map (·.data.toList)) 0 []) (fun i _ => ls.length - (intOf i).toNat)
  case atStart => exact ⟨0, [], .slice none 0 0, [], Nat.zero_le _, rfl, hS3'.out, Sch.nil _ _, hR3'.out, hL3'.out, hB3'.out, by omega, ⟨Nat.le_refl _, fun t ht => by cases ht⟩, by rw [List.drop_zero]⟩
  case round =>
    obtain ⟨k, ts, v, us, hk, rfl, hS, hsch, hR, hL, hB, hz, hfew, hp⟩ := hrel
    obtain ⟨pv, cv, rfl⟩ := own_slice hsch.row
    by_cases hlt : k < ls.length
    · have hcell : wr.cell? ⟨w.heap.size + 2, k, none⟩ = some (.string ls[k]) := by
        rw [hL.cell]; simp [hlt]
      have hll := hlen'.out ls[k] (List.getElem_mem hlt)
      have hT := trimb_calls ls[k] wr (by omega)
      obtain ⟨T, eT, dT⟩ : ∃ Q : ByteArray, strV (trimB ls[k].data.toList) = .string Q ∧ Q.data.toList = trimB ls[k].data.toList := ⟨⟨(trimB ls[k].data.toList).toArray⟩, rfl, rfl⟩
      have htl : (trimB ls[k].data.toList).length ≤ 100000 := by
        have := trimB_le ls[k].data.toList
        rw [Lib.size_eq] at hll; omega
      rw [eT] at hT
      have hstep : parseG ((ls.map (·.data.toList)).drop k) k ts = if skipL (trimB ls[k].data.toList) then parseG ((ls.map (·.data.toList)).drop (k + 1)) (k + 1) ts else match lineG ts (trimB ls[k].data.toList) with
          | none => (none, (k : Int) + 1)
          | some ts' => parseG ((ls.map (·.data.toList)).drop (k + 1)) (k + 1) ts' := by
        rw [List.drop_eq_getElem_cons (by rw [List.length_map]; exact hlt), List.getElem_map]
        rfl
      rw [hp] at hstep
      have ete : (T.toList == []) = (trimB ls[k].data.toList).isEmpty := by
        rw [Lib.toList_data, dT]
        cases trimB ls[k].data.toList <;> rfl
      have hPf := Tryd.strings_HasPrefix T ⟨#[47, 47]⟩
      rw [dT] at hPf
      have hPd : (⟨#[47, 47]⟩ : ByteArray).data.toList = [47, 47] := rfl
      rw [hPd] at hPf
      have hT' := Lib.hid hT
      have hPf' := Lib.hid hPf
      have hstep' := Lib.hid hstep
      have hS' := Lib.hid hS
      have hsch' := Lib.hid hsch
      have hR' := Lib.hid hR
      have hL' := Lib.hid hL
      have hB' := Lib.hid hB
      have hfew' := Lib.hid hfew
      have eT' := Lib.hid eT
      clear hT hPf hPd hstep hS hsch hR hL hB hfew hp eT dT
      cases hem : (trimB ls[k].data.toList).isEmpty
      · rw [hem] at ete
        go_wp2_with fail
        refine hT'.out.mono ?_
        rintro e w4 ⟨rfl, b4⟩
        go_wp2_with fail
        refine (hPf'.out _).mono ?_
        rintro e w5 ⟨rfl, rfl⟩
        cases hpf : Lib.hasPrefix (trimB ls[k].data.toList) [47, 47]
        · have hlc := line_calls (trimB ls[k].data.toList) (w.heap.size + 3) (w.heap.size + 1) _ us ts w5 htl (hS'.out.below b4 (by omega)) (by omega) (by have := b4.size; omega) (hsch'.out.keeps (S := fun _ => False) (.of_below b4) fun _ _ _ => id) (by have := hfew'.out.1; omega) (fun t ht => by have := hfew'.out.2 t ht; omega)
          rw [eT'.out] at hlc
          have hlc' := Lib.hid hlc
          clear hlc
          have hst : skipL (trimB ls[k].data.toList) = false := by unfold skipL; rw [hem, hpf]; rfl
          go_wp2_with fail
          refine hlc'.out.mono ?_
          rintro e w6 ⟨k6, hcase⟩
          have z4 := b4.size
          have B6 : Below w.heap.size w w6 := Keeps.below_step (hB'.out.trans (b4.mono (by omega))) (by omega) k6 (fun j e => by omega)
          have hR6 := (hR'.out.below b4 (by omega)).keeps k6 (by omega)
          have hL6 := (hL'.out.below b4 (by omega)).keeps k6 (by omega)
          have z6 := k6.size
          have Rc := hR6.cell
          have Rf := hR6.frozen
          rcases hcase with ⟨hn, rfl⟩ | ⟨ts', v', us', hs', rfl, hS6, hsch6⟩
          · have hps := hstep'.out
            rw [hst, hn, if_neg Bool.false_ne_true] at hps
            have hps' := Lib.hid hps
            have B6' := Lib.hid B6
            clear B6 hps hL6 k6 hR6
            go_wp2_with fail
            refine bodyPost_ret (v := .tuple #[.agg #[.slice none 0 0], .int .i64 ((k : Int) + 1), .int .i64 9]) (by simp [results, Tryd.results8, go_sem, Rc]) rfl ?_
            exact ⟨B6'.out.setCell (p := ⟨w.heap.size, 0, none⟩) (Nat.le_refl _) _, .inl ⟨_, hps'.out.symm ▸ rfl, rfl⟩⟩
          · have hps := hstep'.out
            rw [hst, hs', if_neg Bool.false_ne_true] at hps
            have hfew6 := lineG_few hfew'.out hs'
            have hps' := Lib.hid hps
            have B6' := Lib.hid B6
            have hf' := Lib.hid hfew6
            have hS6' := Lib.hid hS6
            have hsch6' := Lib.hid hsch6
            clear B6 hps k6 hfew6 hS6 hsch6
            go_wp2_with fail
            go_roundw
            case rel => exact ⟨k + 1, ts', v', us', by omega, by go_num, hS6'.out, hsch6'.out, hR6, hL6, B6'.out, by omega, hf'.out, hps'.out.symm⟩
            case measure => simp [intOf]; omega
        · have hst : skipL (trimB ls[k].data.toList) = true := by unfold skipL; rw [hem, hpf]; rfl
          have hps := hstep'.out
          rw [hst, if_pos rfl] at hps
          have z4 := b4.size
          have hf := hfew'.out
          go_wp2_with fail
          go_roundw
          case rel => exact ⟨k + 1, ts, _, us, by omega, by go_num, hS'.out.below b4 (by omega), hsch'.out.keeps (S := fun _ => False) (.of_below b4) fun _ _ _ => id, hR'.out.below b4 (by omega), hL'.out.below b4 (by omega), hB'.out.trans (b4.mono (by omega)), by omega, ⟨by have := hf.1; omega, fun t ht => by have := hf.2 t ht; omega⟩, hps.symm⟩
          case measure => simp [intOf]; omega
      · rw [hem] at ete
        have hst : skipL (trimB ls[k].data.toList) = true := by unfold skipL; rw [hem]; rfl
        have hps := hstep'.out
        rw [hst, if_pos rfl] at hps
        have hf := hfew'.out
        have hps' := Lib.hid hps
        have hf' := Lib.hid hf
        clear hps hf
        go_wp2_with fail
        refine hT'.out.mono ?_
        rintro e w4 ⟨rfl, b4⟩
        have z4 := b4.size
        go_wp2_with fail
        go_roundw
        case rel => exact ⟨k + 1, ts, _, us, by omega, by go_num, hS'.out.below b4 (by omega), hsch'.out.keeps (S := fun _ => False) (.of_below b4) fun _ _ _ => id, hR'.out.below b4 (by omega), hL'.out.below b4 (by omega), hB'.out.trans (b4.mono (by omega)), by omega, ⟨by have := hf'.out.1; omega, fun t ht => by have := hf'.out.2 t ht; omega⟩, hps'.out.symm⟩
        case measure => simp [intOf]; omega
    · obtain rfl : k = ls.length := by omega
      have Sc := hS.cell
      have Rc := hR.cell
      have Rf := hR.frozen
      rw [List.drop_eq_nil_of_le (by rw [List.length_map]; exact Nat.le_refl _)] at hp
      have hp' := Lib.hid hp
      have hsch' := Lib.hid hsch
      have hB' := Lib.hid hB
      clear hp hsch hB hS hR hL hfew
      go_wp2_with fail
      refine bodyPost_ret (v := .tuple #[.agg #[.slice pv ts.length cv], .int .i64 0, .int .i64 0]) (by simp [results, Tryd.results8, go_sem, Rc]) rfl ?_
      exact ⟨hB'.out.setCell (p := ⟨w.heap.size, 0, none⟩) (Nat.le_refl _) _, .inr ⟨ts, _, us, hp'.out.symm, rfl, hsch'.out.keeps ((Keeps.refl (fun j => j = w.heap.size) wr).setCell (p := ⟨w.heap.size, 0, none⟩) (.inl rfl) _) fun j hj _ e => by omega⟩⟩
end Go.Proofs.YtkibaaljpbcjeaaDoor
namespace Go.Proofs.YtkibaaljpbcjeaaDoor
open Go.RowKit
set_option maxHeartbeats 1000000 in
set_option maxRecDepth 100000 in
theorem parse_long (s : ByteArray) (w : World) (hs : 65536 < s.size) (hs2 : s.size ≤ maxLen) :
    Calls Tryd.prog 8 #[.string s] w fun e w' => e = .returned (.tuple #[.agg #[.slice none 0 0], .int .i64 0, .int .i64 10]) ∧ Below w.heap.size w w' := by
  have hR := Blk.new w 25 #[.slice none 0 0]
  have Rc := hR.cell
  have Rf := hR.frozen
  have hB := (Below.refl w.heap.size w).alloc (Nat.le_refl _) (.cells #[.slice none 0 0] 25)
  have hB' := Lib.hid hB
  clear hB hR
  unfold maxLen at hs2
  go_enter Tryd.func8, Tryd.ntmps8
  go_wp2_with fail
  refine bodyPost_ret (v := .tuple #[.agg #[.slice none 0 0], .int .i64 0, .int .i64 10]) (by simp [results, Tryd.results8, go_sem, Rc]) rfl ?_
  exact ⟨rfl, hB'.out⟩
set_option maxHeartbeats 400000 in
theorem rsign_calls (c : UInt8) (w : World) : Calls Tryd.prog 45 #[.int .u8 c.toNat] w fun e w' => e = .returned (.bool (nameByte c)) ∧ w = w' := by
  have hn := nameByte_int c
  have hn' := Lib.hid hn
  clear hn
  go_enter Tryd.func45, Tryd.ntmps45
  go_wp2
  all_goals
    go_ret
    refine ⟨ret_bool ?_, rfl⟩
    rw [hn'.out]
    grind
end Go.Proofs.YtkibaaljpbcjeaaDoor
namespace Go.Proofs.YtkibaaljpbcjeaaDoor
open Go.RowKit
/-- a line that says nothing, its right end as it is -/
def blankL (s : List UInt8) : Bool := (trimL s).isEmpty || Lib.hasPrefix (trimL s) [47, 47]
theorem trimL_cons (c : UInt8) (s : List UInt8) : trimL (c :: s) = if c == 32 || c == 9 then trimL s else c :: s := by
  unfold trimL Lib.trimLeftS
  rw [List.dropWhile_cons]
  have e : ([32, 9] : List UInt8).contains c = (c == 32 || c == 9) := by simp only [List.contains_cons, List.contains_nil, Bool.or_false]
  rw [e]
theorem blank_int (c : UInt8) : (c == 32 || c == 9) = (decide ((c.toNat : Int) = 32) || decide ((c.toNat : Int) = 9)) := by
  rw [Bool.eq_iff_iff]; simp [← UInt8.toNat_inj]; omega
theorem two_eq (s : ByteArray) (k : Nat) (h : k + 1 < s.size) : ((s.extract k (k + 2)).toList == [47, 47]) = Lib.hasPrefix (s.data.toList.drop k) [47, 47] := by
  have hl : s.data.toList.length = s.size := by rw [Lib.size_eq]
  rw [Lib.toList_data, Lib.extract_data]
  have e : s.data.toList.drop k = s.data.toList[k]'(by omega) :: s.data.toList[k+1]'(by omega) :: s.data.toList.drop (k + 2) := by
    rw [List.drop_eq_getElem_cons (by omega), List.drop_eq_getElem_cons (i := k + 1) (by omega)]
  rw [e, show k + 2 - k = 2 by omega]
  rw [Bool.eq_iff_iff]
  simp [Lib.hasPrefix, List.isPrefixOf]
  constructor <;> rintro ⟨a, b⟩ <;> exact ⟨a.symm, b.symm⟩
theorem one_left (s : ByteArray) (k : Nat) (h : k + 1 = s.size) : Lib.hasPrefix (s.data.toList.drop k) [47, 47] = false := by
  have hl : s.data.toList.length = s.size := by rw [Lib.size_eq]
  rw [List.drop_eq_getElem_cons (by omega), List.drop_eq_nil_of_le (by omega)]
  simp [Lib.hasPrefix, List.isPrefixOf]
set_option maxHeartbeats 1000000 in
set_option maxRecDepth 100000 in
theorem blank_calls (s : ByteArray) (w : World) (hs : s.size ≤ 100000) : Calls Tryd.prog 19 #[.string s] w fun e w' => e = .returned (.bool (blankL s.data.toList)) ∧ w = w' := by
  have hstep : ∀ k (h : k < s.size), trimL (s.data.toList.drop k) = if s[k] == 32 || s[k] == 9 then trimL (s.data.toList.drop (k + 1)) else s.data.toList.drop k := fun k h => by
    have hl : s.data.toList.length = s.size := by rw [Lib.size_eq]
    rw [List.drop_eq_getElem_cons (by omega), trimL_cons]; rfl
  have hend : s.data.toList.drop s.size = [] := List.drop_eq_nil_of_le (by rw [Lib.size_eq]; exact Nat.le_refl _)
  have h2 := two_eq s
  have h1 := one_left s
  have hstep' := Lib.hid hstep
  have h2' := Lib.hid h2
  have h1' := Lib.hid h1
  have hend' := Lib.hid hend
  clear hstep h2 h1 hend
  go_enter Tryd.func19, Tryd.ntmps19
  go_wp2_with fail
  go_loop [3] (fun i => ∃ k : Nat, k ≤ s.size ∧ i = .int .i64 k ∧ trimL (s.data.toList.drop k) = trimL s.data.toList) (fun i => s.size - (intOf i).toNat)
  case atStart => exact ⟨0, Nat.zero_le _, rfl, by rw [List.drop_zero]⟩
  case round =>
    obtain ⟨k, hk, rfl, hr⟩ := hrel
    have hr' := Lib.hid hr
    clear hr
    by_cases hlt : k < s.size
    · have hst := Lib.hid (hstep'.out k hlt)
      have hbi := blank_int s[k]
      cases hb : (s[k] == 32 || s[k] == 9)
      · rw [hb] at hbi
        have hdr : trimL s.data.toList = s.data.toList.drop k := by rw [← hr'.out, hst.out, hb]; rfl
        have hne : (s.data.toList.drop k).isEmpty = false := by
          rw [List.drop_eq_getElem_cons (by rw [← Lib.size_eq]; exact hlt)]; rfl
        have hbl : blankL s.data.toList = Lib.hasPrefix (s.data.toList.drop k) [47, 47] := by unfold blankL; rw [hdr, hne, Bool.false_or]
        have hbl' := Lib.hid hbl
        have hb12 : ¬ (s[k].toNat : Int) = 32 ∧ ¬ (s[k].toNat : Int) = 9 := by
          have := hbi.symm
          rw [Bool.or_eq_false_iff] at this
          exact ⟨of_decide_eq_false this.1, of_decide_eq_false this.2⟩
        obtain ⟨n32, n9⟩ := hb12
        clear hbl hdr hne hb hbi
        by_cases h2k : k + 1 < s.size
        · have e2 := h2'.out k h2k
          rw [← hbl'.out] at e2
          go_wp2_with fail
          all_goals first
            | (go_ret; exact ⟨rfl, rfl⟩)
            | (exfalso; simp_all; done)
            | (exfalso; omega)
        · have e1 := h1'.out k (by omega)
          rw [← hbl'.out] at e1
          go_wp2_with fail
          all_goals first
            | (go_ret; exact ⟨by rw [e1]; rfl, rfl⟩)
            | (go_ret; exact ⟨rfl, rfl⟩)
            | (exfalso; simp_all; done)
            | (exfalso; omega)
      · rw [hb] at hbi
        have hnx : trimL (s.data.toList.drop (k + 1)) = trimL s.data.toList := by rw [← hr'.out, hst.out, hb]; rfl
        have hnx' := Lib.hid hnx
        have hb12 : (s[k].toNat : Int) = 32 ∨ (s[k].toNat : Int) = 9 := by
          have := hbi.symm
          rw [Bool.or_eq_true] at this
          exact this.imp of_decide_eq_true of_decide_eq_true
        clear hnx hb hbi
        rcases hb12 with n | n
        all_goals
          go_wp2_with fail
          go_round
          case rel => exact ⟨k + 1, by omega, by go_num, hnx'.out⟩
          case measure => simp [intOf]; omega
    · obtain rfl : k = s.size := by omega
      have hbl : blankL s.data.toList = true := by
        unfold blankL; rw [← hr'.out, hend'.out]; rfl
      have hbl' := Lib.hid hbl
      clear hbl
      go_wp2_with fail
      go_ret
      exact ⟨by rw [hbl'.out]; rfl, rfl⟩
end Go.Proofs.YtkibaaljpbcjeaaDoor
namespace Go.Proofs.YtkibaaljpbcjeaaDoor
theorem trimL_app (x y : List UInt8) (hy : ∀ b ∈ y, ([32, 9] : List UInt8).contains b = true) : trimL (x ++ y) = if trimL x = [] then [] else trimL x ++ y := by
  unfold trimL Lib.trimLeftS
  rw [List.dropWhile_append]
  have e : y.dropWhile (fun c => ([32, 9] : List UInt8).contains c) = [] := by
    clear x
    induction y with
    | nil => rfl
    | cons b y ih => rw [List.dropWhile_cons_of_pos (hy b (by simp))]; exact ih fun c hc => hy c (List.mem_cons_of_mem _ hc)
  rw [e]
  by_cases h : x.dropWhile (fun c => ([32, 9] : List UInt8).contains c) = []
  · rw [h]; rfl
  · rw [if_neg h, if_neg (by rw [List.isEmpty_iff]; exact h)]
theorem right_parts (s : List UInt8) : ∃ y, s = Lib.trimRightS s [32, 9] ++ y ∧ ∀ b ∈ y, ([32, 9] : List UInt8).contains b = true := by
  refine ⟨(s.reverse.takeWhile (fun c => ([32, 9] : List UInt8).contains c)).reverse, ?_, fun b hb => ?_⟩
  · unfold Lib.trimRightS
    rw [← List.reverse_append, List.takeWhile_append_dropWhile, List.reverse_reverse]
  · rw [List.mem_reverse] at hb
    have := List.all_takeWhile (p := fun c => ([32, 9] : List UInt8).contains c) (l := s.reverse)
    rw [List.all_eq_true] at this
    exact this b hb
theorem pre_app (t y : List UInt8) (ht : t ≠ []) (hy : ∀ b ∈ y, ([32, 9] : List UInt8).contains b = true) : Lib.hasPrefix (t ++ y) [47, 47] = Lib.hasPrefix t [47, 47] := by
  match t, ht with
  | [c], _ =>
    match y, hy with
    | [], _ => rfl
    | b :: y, hy =>
      have hb : (47 == b) = false := by
        cases h : (47 == b)
        · rfl
        · have e := hy b (by simp)
          rw [← beq_iff_eq.1 h] at e
          exact absurd e (by decide)
      simp only [Lib.hasPrefix, List.isPrefixOf, List.singleton_append, hb, Bool.false_and, Bool.and_false]
  | c :: d :: t, _ => rfl
theorem skip_blank (s : List UInt8) : skipL (trimB s) = blankL s := by
  obtain ⟨y, hs, hy⟩ := right_parts s
  have e : trimB s = trimL (Lib.trimRightS s [32, 9]) := rfl
  have h := trimL_app (Lib.trimRightS s [32, 9]) y hy
  rw [← hs] at h
  unfold skipL blankL
  rw [e, h]
  by_cases h0 : trimL (Lib.trimRightS s [32, 9]) = []
  · rw [if_pos h0, h0]
  · rw [if_neg h0, pre_app _ y h0 hy]
    congr 1
    cases hh : trimL (Lib.trimRightS s [32, 9]) with
    | nil => exact absurd hh h0
    | cons _ _ => rfl
end Go.Proofs.YtkibaaljpbcjeaaDoor
