/- Keys of maps that are objects, points or subjects. -/
import Derived.Test.YtaikedlkkjnffaaGreatDoorFR1
import Derived.Test.YtaikedlkkjnffaaGreatDoorMapV
import Derived.DeepKeys4
namespace Go.Proofs.YtaikedlkkjnffaaGreatDoor
open Go.RowKit Go.Maps
theorem laidOutF : laidOutB Tryz.prog = true := by kernel_rfl
theorem sizeF : 6 ≤ Tryz.prog.types.size := of_decide_eq_true (by kernel_rfl)
theorem wideO : (match Tryz.prog.underlying 24 with | some (.array _ _) | some (.struct _) => true | _ => false) = true := by kernel_rfl
theorem wideP : (match Tryz.prog.underlying 26 with | some (.array _ _) | some (.struct _) => true | _ => false) = true := by kernel_rfl
theorem wideS : (match Tryz.prog.underlying 27 with | some (.array _ _) | some (.struct _) => true | _ => false) = true := by kernel_rfl
theorem ktO : Tryz.prog.keyTypeAt 2 24 = true := by kernel_rfl
theorem ktP : Tryz.prog.keyTypeAt 3 26 = true := by kernel_rfl
theorem ktS : Tryz.prog.keyTypeAt 3 27 = true := by kernel_rfl
theorem rowO : (24 : TypeId) < Tryz.prog.types.size := of_decide_eq_true (by kernel_rfl)
theorem rowP : (26 : TypeId) < Tryz.prog.types.size := of_decide_eq_true (by kernel_rfl)
theorem rowS : (27 : TypeId) < Tryz.prog.types.size := of_decide_eq_true (by kernel_rfl)
set_option maxRecDepth 100000 in
theorem lawO : WideMaps.KeyLaw Tryz.prog 24 := deep_law_laid laidOutF (m := 2) (by omega) rowO ktO wideO
set_option maxRecDepth 100000 in
theorem lawP : WideMaps.KeyLaw Tryz.prog 26 := deep_law_laid laidOutF (m := 3) (by omega) rowP ktP wideP
set_option maxRecDepth 100000 in
theorem lawS : WideMaps.KeyLaw Tryz.prog 27 := deep_law_laid laidOutF (m := 3) (by omega) rowS ktS wideS
theorem keyTypeO : Tryz.prog.keyType 24 = true := by kernel_rfl
theorem keyTypeP : Tryz.prog.keyType 26 = true := by kernel_rfl
theorem keyTypeS : Tryz.prog.keyType 27 = true := by kernel_rfl
theorem cellsO : Tryz.prog.cellsOf 24 = 2 := by kernel_rfl
theorem cellsP : Tryz.prog.cellsOf 26 = 3 := by kernel_rfl
theorem cellsS : Tryz.prog.cellsOf 27 = 3 := by kernel_rfl
theorem cellsStr : Tryz.prog.cellsOf 9 = 1 := by kernel_rfl
theorem lits_ob (d : Nat) (a b : ByteArray) (ha : a.size ≤ maxLen) (hb : b.size ≤ maxLen) : Tryz.prog.keyLits (d + 2) 24 [.string a, .string b] = some [.string a.data.toList, .string b.data.toList] := by
  simp [Program.keyLits, Tryz.underlying24, Tryz.underlying9, cellsO, cellsStr, ha, hb]
theorem lits_pt (d : Nat) (a b c : ByteArray) (ha : a.size ≤ maxLen) (hb : b.size ≤ maxLen) (hc : c.size ≤ maxLen) : Tryz.prog.keyLits (d + 3) 26 [.string a, .string b, .string c] = some [.string a.data.toList, .string b.data.toList, .string c.data.toList] := by
  unfold Program.keyLits
  simp [Tryz.underlying26, cellsP, cellsO, lits_ob d a b ha hb]
  simp [Program.keyLits, Tryz.underlying9, cellsStr, hc]
theorem lits_sub (d : Nat) (a b c : ByteArray) (ha : a.size ≤ maxLen) (hb : b.size ≤ maxLen) (hc : c.size ≤ maxLen) : Tryz.prog.keyLits (d + 3) 27 [.string a, .string b, .string c] = some [.string a.data.toList, .string b.data.toList, .string c.data.toList] := by
  unfold Program.keyLits
  simp [Tryz.underlying27, cellsS, cellsO, lits_ob d a b ha hb]
  simp [Program.keyLits, Tryz.underlying9, cellsStr, hc]
theorem keyO (o : Ob) (h1 : o.t.size ≤ maxLen) (h2 : o.i.size ≤ maxLen) : ∃ kl, keyOf Tryz.prog 24 o.v = some kl := by
  obtain ⟨d, hd⟩ : ∃ d, Tryz.prog.types.size + 1 = d + 2 := ⟨Tryz.prog.types.size - 1, by have := sizeF; omega⟩
  refine ⟨.string (keyBytes [.string o.t.data.toList, .string o.i.data.toList]), ?_⟩
  unfold keyOf
  simp only [Tryz.underlying24]
  rw [hd, if_pos (by rw [keyTypeO]; simp [Value.formed, Ob.v, Tryz.underlying24, cellsO])]
  show ((Tryz.prog.keyLits (d + 2) 24 [.string o.t, .string o.i]).map _) = _
  rw [lits_ob d _ _ h1 h2]
  rfl
theorem keyP (o : Tri) (h1 : o.x.size ≤ maxLen) (h2 : o.y.size ≤ maxLen) (h3 : o.z.size ≤ maxLen) : ∃ kl, keyOf Tryz.prog 26 o.v = some kl := by
  obtain ⟨d, hd⟩ : ∃ d, Tryz.prog.types.size + 1 = d + 3 := ⟨Tryz.prog.types.size - 2, by have := sizeF; omega⟩
  refine ⟨.string (keyBytes [.string o.x.data.toList, .string o.y.data.toList, .string o.z.data.toList]), ?_⟩
  unfold keyOf
  simp only [Tryz.underlying26]
  rw [hd, if_pos (by rw [keyTypeP]; simp [Value.formed, Tri.v, Tryz.underlying26, cellsP])]
  show ((Tryz.prog.keyLits (d + 3) 26 [.string o.x, .string o.y, .string o.z]).map _) = _
  rw [lits_pt d _ _ _ h1 h2 h3]
  rfl
theorem keyS (o : Tri) (h1 : o.x.size ≤ maxLen) (h2 : o.y.size ≤ maxLen) (h3 : o.z.size ≤ maxLen) : ∃ kl, keyOf Tryz.prog 27 o.v = some kl := by
  obtain ⟨d, hd⟩ : ∃ d, Tryz.prog.types.size + 1 = d + 3 := ⟨Tryz.prog.types.size - 2, by have := sizeF; omega⟩
  refine ⟨.string (keyBytes [.string o.x.data.toList, .string o.y.data.toList, .string o.z.data.toList]), ?_⟩
  unfold keyOf
  simp only [Tryz.underlying27]
  rw [hd, if_pos (by rw [keyTypeS]; simp [Value.formed, Tri.v, Tryz.underlying27, cellsS])]
  show ((Tryz.prog.keyLits (d + 3) 27 [.string o.x, .string o.y, .string o.z]).map _) = _
  rw [lits_sub d _ _ _ h1 h2 h3]
  rfl
end Go.Proofs.YtaikedlkkjnffaaGreatDoor
