/- Walk: the document's lines. Walk: the document's lines, its loop. A text's lines: put together byte by byte, or split: the same. No program in sight. -/
import Derived.Test.YtkibaaljpbcjeaaDoorSBl
import Derived.BigRegion
namespace Go.Proofs.YtkibaaljpbcjeaaDoor
open Go.RowKit
attribute [local go_sem ↓] dapp_op
/-- a byte put to the lines so far -/
def lineStep (acc : List (List UInt8)) (c : UInt8) : List (List UInt8) := if c == 10 then acc ++ [[]] else acc.dropLast ++ [(acc.getLast?.getD []) ++ [c]]
def linesG (s : List UInt8) : List (List UInt8) := s.foldl lineStep [[]]
theorem lineStep_len (acc : List (List UInt8)) (c : UInt8) (h : 1 ≤ acc.length) : 1 ≤ (lineStep acc c).length ∧ (lineStep acc c).length ≤ acc.length + 1 := by
  unfold lineStep
  split
  · simp
  · rw [List.length_append, List.length_dropLast, List.length_singleton]; omega
theorem info_strz : (Tryd.prog.info? 9).map (fun i => (i.zero, i.size, i.bytes)) = some (some (.string ⟨#[]⟩), 1, 16) := by kernel_rfl
theorem str_push {w : World} {base : Nat} {v : Value} {l : List (List UInt8)} (h : w.ownsRow base 9 1 v l.length (l.map strV)) (hl : l.length ≤ 1000000) (hb : base ≤ w.heap.size) {o : Nat} {s : ByteArray} (ho : Blk w o 9 #[.string s]) :
    ∃ p c w', (dappOp #[35, 35] 35 #[v, .slice (some ⟨o, 0, none⟩) 1 1]).run Tryd.prog w = .ok (.slice p (l.length + 1) c) w' ∧ w'.ownsRow base 9 1 (.slice p (l.length + 1) c) (l ++ [s.data.toList]).length ((l ++ [s.data.toList]).map strV) ∧ Keeps (fun k => v.ownBlock = some k) w w' := by
  obtain ⟨i0, hi, hz0, hz1, hz2⟩ := info_parts info_strz
  obtain ⟨v', w', h2, h3, h4, _, h5⟩ := run_append_own_at (P := Tryd.prog) w base 35 35 9 i0 (.string ⟨#[]⟩) 1 16 Tryd.underlying35 hi hz0 hz1 hz2 rfl (by decide) v l.length _ h ⟨o, 0, none⟩ 1 1 [.string s] rfl (by
      intro j u hj
      rw [addr_at, ho.cell j, ← hj]
      simp) (by
      intro u hu
      simp at hu
      subst hu; rfl) (by unfold maxLen; omega) (by omega) hb
  obtain ⟨p, c, rfl⟩ := own_slice h3
  refine ⟨p, c, w', h2, ?_, (Keeps.refl (fun k => v.ownBlock = some k) w).grown h4 (fun k e => .inl e)⟩
  rw [List.map_append, List.length_append, List.map_singleton, ← strV_mk]
  exact h3
end Go.Proofs.YtkibaaljpbcjeaaDoor
namespace Go.Proofs.YtkibaaljpbcjeaaDoor
open Go.RowKit
attribute [local go_sem ↓] dapp_op
def accK (s : ByteArray) (k : Nat) : List (List UInt8) := (s.data.toList.take k).foldl lineStep [[]]
theorem accK_succ (s : ByteArray) (k : Nat) (h : k < s.size) : accK s (k + 1) = lineStep (accK s k) s[k] := by
  unfold accK
  rw [take_snoc s k h, List.foldl_append]; rfl
theorem set_end (acc : List (List UInt8)) (h : 1 ≤ acc.length) (u : Value) : (acc.map strV).set (acc.length - 1) u = acc.dropLast.map strV ++ [u] := by
  rcases List.eq_nil_or_concat acc with rfl | ⟨init, x, rfl⟩
  · simp at h
  · simp
theorem put_end (s T : ByteArray) (k : Nat) (h : k < s.size) : Value.string (T ++ s.extract k (k + 1)) = strV (T.data.toList ++ [s[k]]) := by
  rw [strV_mk]; congr 1
  have hl : s.data.toList.length = s.size := by rw [Lib.size_eq]
  have e : (s.extract k (k + 1)).data.toList = [s[k]] := by
    rw [Lib.extract_data, show k + 1 - k = 1 by omega, List.drop_eq_getElem_cons (by omega)]; rfl
  rw [← e]; simp
set_option maxHeartbeats 2000000 in
set_option maxRecDepth 100000 in
theorem lines_calls (s : ByteArray) (w : World) (hs : s.size ≤ 65536) : Calls Tryd.prog 18 #[.string s] w fun e w' => ∃ p c, e = .returned (.slice p (linesG s.data.toList).length c) ∧ w'.ownsRow w.heap.size 9 1 (.slice p (linesG s.data.toList).length c) (linesG s.data.toList).length ((linesG s.data.toList).map strV) ∧ Below w.heap.size w w' := by
  have hfull : accK s s.size = linesG s.data.toList := by
    unfold accK linesG
    rw [List.take_of_length_le (by rw [Lib.size_eq]; exact Nat.le_refl _)]
  have o1 := World.ownsRow_lit (base := w.heap.size) (e := 9) (size := 1) w #[.string ⟨#[]⟩] 1 (Nat.le_refl _) (by unfold maxLen; omega) rfl
  have b1 := (Below.refl w.heap.size w).alloc (Nat.le_refl _) (.cells #[.string ⟨#[]⟩] 9)
  have o1' := Lib.hid o1
  have b1' := Lib.hid b1
  clear o1 b1
  go_enter Tryd.func18, Tryd.ntmps18
  go_wp2_with fail
  go_loopw [3, 4] (fun v i wr => ∃ (k : Nat) (acc : List (List UInt8)), k ≤ s.size ∧ i = .int .i64 k ∧ acc = accK s k ∧ 1 ≤ acc.length ∧ acc.length ≤ k + 1 ∧ (∀ l ∈ acc, l.length ≤ k) ∧ wr.ownsRow w.heap.size 9 1 v acc.length (acc.map strV) ∧ Below w.heap.size w wr ∧ w.heap.size ≤ wr.heap.size) (fun _ i _ => s.size - (intOf i).toNat)
  case atStart => exact ⟨0, [[]], Nat.zero_le _, rfl, rfl, by simp, by simp, by simp, o1'.out, b1'.out, by simp⟩
  case round =>
    obtain ⟨k, acc, hk, rfl, ha, h1, h2, hll, ho, hB, hz⟩ := hrel
    obtain ⟨pv, cv, rfl⟩ := own_slice ho
    by_cases hlt : k < s.size
    · have hsucc := accK_succ s k hlt
      rw [← ha] at hsucc
      clear ha
      have hsucc' := Lib.hid hsucc
      clear hsucc
      have hlens := lineStep_len acc s[k] h1
      by_cases hc : s[k] = 10
      · have hci : (s[k].toNat : Int) = 10 := by rw [hc]; rfl
        have hst : lineStep acc s[k] = acc ++ [[]] := by unfold lineStep; rw [hc]; rfl
        have hb := (Below.refl wr.heap.size wr).alloc (Nat.le_refl _) (.cells #[.string ⟨#[]⟩] 9)
        have x := Blk.new wr 9 #[.string ⟨#[]⟩]
        obtain ⟨p4, c4, w4, e4, o4, k4⟩ := str_push (own_keeps (S := fun _ => False) ho (.of_below hb) fun _ _ => id) (by omega) (by have := hb.size; omega) x
        have hll2 : ∀ l ∈ acc ++ [[]], l.length ≤ k + 1 := fun l hl => by
          rcases List.mem_append.1 hl with hl | hl
          · have := hll l hl; omega
          · rw [List.mem_singleton.1 hl]; simp
        have hlow := fun j hj => (ho.lt j hj).1
        have o4' := Lib.hid o4
        have B4 := Lib.hid (Keeps.below_step (hB.trans (hb.mono hz)) (by have := hb.size; omega) k4 fun j e => hlow j e)
        have z4 := k4.size
        have z5 := hb.size
        clear o4 k4 x hb ho hc
        go_wp2_with fail
        go_roundw
        case rel => exact ⟨k + 1, acc ++ [[]], by omega, by go_num, by rw [hsucc'.out, hst], by simp, by simp; omega, hll2, by simpa using o4'.out, B4.out, by omega⟩
        case measure => simp [intOf]; omega
      · have hci : ¬ (s[k].toNat : Int) = 10 := fun e => hc (by apply UInt8.toNat_inj.1; exact Int.ofNat.inj e)
        obtain ⟨g, rfl⟩ : ∃ g, pv = some ⟨g, 0, none⟩ := by
          rcases ho.2 with ⟨e, _⟩ | ⟨g, cap, cur, e, _⟩
          · injection e with _ e; omega
          · injection e with e; exact ⟨g, e⟩
        obtain ⟨T, eT, dT⟩ : ∃ Q : ByteArray, strV (acc.getLast?.getD []) = .string Q ∧ Q.data.toList = acc.getLast?.getD [] := ⟨⟨(acc.getLast?.getD []).toArray⟩, rfl, rfl⟩
        have hlast : wr.cell? ⟨g, acc.length - 1, none⟩ = some (.string T) := by
          rw [ho.cellAt (acc.length - 1) (by omega), List.getElem?_map, ← List.getLast?_eq_getElem?, ← eT]
          cases hl : acc.getLast? with
          | none => rw [List.getLast?_eq_none_iff] at hl; rw [hl] at h1; simp at h1
          | some x => rfl
        have hlast' : wr.cell? ⟨g, ((acc.length : Int) - 1).toNat, none⟩ = some (.string T) := by rw [show ((acc.length : Int) - 1).toNat = acc.length - 1 by omega]; exact hlast
        have hfz := ho.frozenAt
        have hTs : T.size ≤ 65536 := by
          rw [Lib.size_eq, dT]
          cases hl : acc.getLast? with
          | none => simp
          | some x => have := hll x (List.mem_of_getLast? hl); show x.length ≤ _; omega
        have hxs : (s.extract k (k + 1)).size = 1 := by rw [ByteArray.size_extract]; omega
        go_wp2_with fail
        go_region
        have hst : lineStep acc s[k] = acc.dropLast ++ [(acc.getLast?.getD []) ++ [s[k]]] := by unfold lineStep; rw [if_neg (by rw [beq_iff_eq]; exact hc)]
        have hso := (ho.stored (acc.length - 1) (.string (T ++ s.extract k (k + 1)))).1
        rw [put_end s T k hlt, dT, set_end acc h1] at hso
        have e1 : (acc.dropLast ++ [(acc.getLast?.getD []) ++ [s[k]]]).map strV = acc.dropLast.map strV ++ [strV ((acc.getLast?.getD []) ++ [s[k]])] := by simp
        have e2 : (acc.dropLast ++ [(acc.getLast?.getD []) ++ [s[k]]]).length = acc.length := by rw [List.length_append, List.length_dropLast, List.length_singleton]; omega
        have hgB := (ho.lt g rfl).1
        have hll3 : ∀ l ∈ acc.dropLast ++ [(acc.getLast?.getD []) ++ [s[k]]], l.length ≤ k + 1 := fun l hl => by
          rcases List.mem_append.1 hl with hl | hl
          · have := hll l ((List.dropLast_sublist acc).subset hl); omega
          · rw [List.mem_singleton.1 hl, List.length_append, List.length_singleton]
            cases hx : acc.getLast? with
            | none => simp
            | some x => have := hll x (List.mem_of_getLast? hx); show x.length + 1 ≤ _; omega
        have hB2 := (hB.setCell (p := ⟨g, acc.length - 1, none⟩) hgB (.string (T ++ s.extract k (k + 1)))).drew
        rw [put_end s T k hlt, dT] at hB2
        rw [put_end s T k hlt, dT]
        go_wp2_with fail
        go_roundw
        case rel => exact ⟨k + 1, acc.dropLast ++ [(acc.getLast?.getD []) ++ [s[k]]], by omega, by go_num, by rw [hsucc'.out, hst], by rw [e2]; exact h1, by rw [e2]; omega, hll3, by rw [e1, e2]; exact hso, hB2, by simpa [World.setCell] using hz⟩
        case measure => simp [intOf]; omega
    · obtain rfl : k = s.size := by omega
      rw [hfull] at ha
      subst ha
      go_wp2_with fail
      go_ret
      exact ⟨pv, cv, rfl, ho, hB⟩
end Go.Proofs.YtkibaaljpbcjeaaDoor
namespace Go.Proofs.YtkibaaljpbcjeaaDoor
/-- the pieces between line ends -/
def cutL : List UInt8 → List (List UInt8)
  | [] => [[]]
  | b :: l => if b == 10 then [] :: cutL l else
    match cutL l with
    | [] => [[b]]
    | p :: ps => (b :: p) :: ps
theorem cutL_ne : ∀ l, cutL l ≠ []
  | [] => by simp [cutL]
  | b :: l => by
    unfold cutL
    split
    · simp
    · split <;> simp
theorem fold_lines : ∀ (l : List UInt8) (acc : List (List UInt8)) (p : List UInt8), l.foldl lineStep (acc ++ [p]) = acc ++ (match cutL l with
    | [] => [p]
    | q :: qs => (p ++ q) :: qs)
  | [], acc, p => by simp [cutL]
  | b :: l, acc, p => by
    rw [List.foldl_cons]
    by_cases hb : (b == 10) = true
    · have e : lineStep (acc ++ [p]) b = (acc ++ [p]) ++ [[]] := by unfold lineStep; rw [if_pos hb]
      rw [e, fold_lines l (acc ++ [p]) []]
      have e2 : cutL (b :: l) = [] :: cutL l := by conv => lhs; unfold cutL; rw [if_pos hb]
      rw [e2]
      cases hc : cutL l with
      | nil => exact absurd hc (cutL_ne l)
      | cons q qs => simp
    · have e : lineStep (acc ++ [p]) b = acc ++ [p ++ [b]] := by unfold lineStep; rw [if_neg hb]; simp
      rw [e, fold_lines l acc (p ++ [b])]
      cases hc : cutL l with
      | nil => exact absurd hc (cutL_ne l)
      | cons q qs =>
        have e2 : cutL (b :: l) = (b :: q) :: qs := by conv => lhs; unfold cutL; rw [if_neg hb, hc]
        rw [e2]; simp
theorem linesG_cut (s : List UInt8) : linesG s = cutL s := by
  have h := fold_lines s [] []
  unfold linesG
  rw [List.nil_append] at h
  rw [h]
  cases hc : cutL s with
  | nil => exact absurd hc (cutL_ne s)
  | cons q qs => rfl
end Go.Proofs.YtkibaaljpbcjeaaDoor
