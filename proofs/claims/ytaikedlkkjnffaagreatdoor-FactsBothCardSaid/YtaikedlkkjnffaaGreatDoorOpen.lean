/- How a tuple comes in as an argument, and how it reads. -/
import Derived.Test.YtaikedlkkjnffaaGreatDoorRows
import Derived.Test.YtaikedlkkjnffaaGreatDoorTup
import Derived.ProofKit
import Derived.Deep.Strs
namespace Go.Proofs.YtaikedlkkjnffaaGreatDoor
open Go.ChangeShapes Go.WideShapes Go.ChangeAt Go.RowKit Go.Deep

section
variable {H : Type} {enc : TypeId × Value → H} {P : Program}
theorem post_of_below {f : Func} {s : ChangeSpec} {apart fresh handsOn again : Bool} {W W' : World} {args : Array Value} {v : Value} {ds gs : List (DataW H)} {before pa pv : List MemPlace}
    (hW : DataW.Whole enc P f.params.toList s.vars apart W args.toList ds gs before)
    (hres : ∀ (b : Nat) (sp : Nat → Bool) (hd : Bool), DataW.TrodAll enc P W' b sp hd f.resultTypes.toList (v.resultList f.resultTypes.size) (s.fn H (ds ++ gs)).results [])
    (hargs : ∀ sp : Nat → Bool, (∀ p ∈ before, sp p.block = true) → DataW.TrodAll enc P W' 0 sp true f.params.toList args.toList (s.fn H (ds ++ gs)).args pa)
    (hvars : ∀ sp : Nat → Bool, (∀ p ∈ before, sp p.block = true) → DataW.TrodVars enc P W' sp s.vars (s.fn H (ds ++ gs)).vars pv)
    (hps : before = pa ++ pv) (hb : Below W.heap.size W W')
    (hok : ∀ (j : Nat) (t : TypeId) (r : Value), f.resultTypes[j]? = some t → (v.resultList f.resultTypes.size)[j]? = some r → Value.okWide P W' .any 0 t r) :
    s.post enc P f apart fresh handsOn again W args v W' := by
  have hlt : ∀ p ∈ before, p.block < W.heap.size := fun p hp => hW.lt p hp
  have hold : ∀ p ∈ before, (fun b => decide (b < W.heap.size)) p.block = true := fun p hp => by simpa using hlt p hp
  refine ⟨ds, gs, before, [], pa, pv, hW, hres _ _ _, hargs _ hold, hvars _ hold, World.keptBut_mono (fun p hp => ⟨hp, ?_⟩) (hb.frame (· ∈ before)), fun _ => ?_⟩
  · rw [hps, List.mem_append] at hp
    exact Or.inr hp
  · obtain ⟨_, _, _, _, _, hz, hn⟩ := hW
    refine ⟨hok, _, _, ([] ++ pa) ++ pv, ⟨[] ++ pa, pv, trodAll_append (hargs _ (fun _ _ => rfl)) (hres _ _ _), hvars _ (fun _ _ => rfl), rfl, ?_, ?_⟩, ?_⟩
    · intro b off hp
      have hin : MemPlace.cell b off ∈ before := by rw [hps]; simpa using hp
      rw [hb.frozen (hlt _ hin)]
      exact hz b off hin
    · intro ha
      have := hn ha
      rw [hps] at this
      simpa using this
    · intro p hp _
      rw [hps]
      simpa using hp
end

theorem own : ownKnob Tryz.prog.godebug = none := by kernel_rfl
theorem cellsStr : Tryz.prog.cellsOf 9 = 1 := by kernel_rfl
theorem cellsObj : Tryz.prog.cellsOf 24 = 2 := by kernel_rfl
theorem cellsSub : Tryz.prog.cellsOf 27 = 3 := by kernel_rfl
theorem cellsTup : Tryz.prog.cellsOf 60 = 6 := by kernel_rfl
def strD {H : Type} (s : ByteArray) : DataW H := .lit (.string s.data.toList)
def Tup.data {H : Type} (t : Tup) : DataW H := .agg [.agg [strD t.a, strD t.b], strD t.c, .agg [.agg [strD t.d, strD t.e], strD t.f]]
section
variable {H : Type} {enc : TypeId × Value → H} {w : World} {base : Nat} {spare : Nat → Bool} {held : Bool}
set_option maxRecDepth 100000 in
theorem trod_obj {fuel : Nat} {c0 c1 : Value} {x : DataW H × List MemPlace} (h : DataW.trod enc Tryz.prog w base spare held fuel 24 [c0, c1] = some x) :
    ∃ a b : ByteArray, c0 = .string a ∧ c1 = .string b ∧ x = (.agg [strD a, strD b], []) ∧ a.size ≤ maxLen ∧ b.size ≤ maxLen := by
  obtain ⟨xs, n, _, hx, _, hlen, hg⟩ := DataW.trod_struct Tryz.underlying24 h
  match xs, hlen with
  | [y0, y1], _ =>
    obtain ⟨a, e0, r0, k0⟩ := DataW.trod_string Tryz.underlying9 (by simpa [cellsStr] using hg 0 _ rfl : DataW.trod enc Tryz.prog w base spare held n 9 [c0] = some y0)
    obtain ⟨b, e1, r1, k1⟩ := DataW.trod_string Tryz.underlying9 (by simpa [cellsStr] using hg 1 _ rfl : DataW.trod enc Tryz.prog w base spare held n 9 [c1] = some y1)
    simp only [List.cons.injEq, and_true] at e0 e1
    subst r0 r1 e0 e1
    exact ⟨a, b, rfl, rfl, by simpa [strD] using hx, k0, k1⟩
set_option maxRecDepth 100000 in
theorem trod_sub {fuel : Nat} {c0 c1 c2 : Value} {x : DataW H × List MemPlace} (h : DataW.trod enc Tryz.prog w base spare held fuel 27 [c0, c1, c2] = some x) :
    ∃ a b c : ByteArray, c0 = .string a ∧ c1 = .string b ∧ c2 = .string c ∧ x = (.agg [.agg [strD a, strD b], strD c], []) ∧ a.size ≤ maxLen ∧ b.size ≤ maxLen ∧ c.size ≤ maxLen := by
  obtain ⟨xs, n, _, hx, _, hlen, hg⟩ := DataW.trod_struct Tryz.underlying27 h
  match xs, hlen with
  | [y0, y1], _ =>
    obtain ⟨a, b, e0, e1, r0, k0, k1⟩ := trod_obj (by simpa [cellsObj] using hg 0 _ rfl : DataW.trod enc Tryz.prog w base spare held n 24 [c0, c1] = some y0)
    obtain ⟨c, e2, r2, k2⟩ := DataW.trod_string Tryz.underlying9 (by simpa [cellsStr] using hg 1 _ rfl : DataW.trod enc Tryz.prog w base spare held n 9 [c2] = some y1)
    simp only [List.cons.injEq, and_true] at e2
    subst e0 e1 e2 r0 r2
    exact ⟨a, b, c, rfl, rfl, rfl, by simpa [strD] using hx, k0, k1, k2⟩
set_option maxRecDepth 100000 in
theorem trod_tup {fuel : Nat} {c0 c1 c2 c3 c4 c5 : Value} {x : DataW H × List MemPlace} (h : DataW.trod enc Tryz.prog w base spare held fuel 60 [c0, c1, c2, c3, c4, c5] = some x) :
    ∃ t : Tup, [c0, c1, c2, c3, c4, c5] = t.cells.toList ∧ x = (t.data, []) ∧ t.fits := by
  obtain ⟨xs, n, _, hx, _, hlen, hg⟩ := DataW.trod_struct Tryz.underlying60 h
  match xs, hlen with
  | [y0, y1, y2], _ =>
    obtain ⟨a, b, e0, e1, r0, k0, k1⟩ := trod_obj (by simpa [cellsObj] using hg 0 _ rfl : DataW.trod enc Tryz.prog w base spare held n 24 [c0, c1] = some y0)
    obtain ⟨c, e2, r2, k2⟩ := DataW.trod_string Tryz.underlying9 (by simpa [cellsStr] using hg 1 _ rfl : DataW.trod enc Tryz.prog w base spare held n 9 [c2] = some y1)
    obtain ⟨d, e, f, e3, e4, e5, r3, k3, k4, k5⟩ := trod_sub (by simpa [cellsSub] using hg 2 _ rfl : DataW.trod enc Tryz.prog w base spare held n 27 [c3, c4, c5] = some y2)
    simp only [List.cons.injEq, and_true] at e2
    subst e0 e1 e2 e3 e4 e5 r0 r2 r3
    refine ⟨⟨a, b, c, d, e, f⟩, rfl, by simpa [strD, Tup.data] using hx, ?_⟩
    intro p hp
    simp [Tup.l] at hp
    rcases hp with rfl | rfl | rfl | rfl | rfl | rfl <;> assumption
theorem list6 {l : List Value} (h : l.length = 6) : ∃ a b c d e f, l = [a, b, c, d, e, f] := by
  match l, h with
  | [a, b, c, d, e, f], _ => exact ⟨a, b, c, d, e, f, rfl⟩
set_option maxRecDepth 100000 in
theorem open_tup {r : Reach} {b0 : Nat} {v : Value} {d : DataW H} {p : List MemPlace} (hv : Value.okWide Tryz.prog w r b0 60 v) (h : DataW.Trod enc Tryz.prog w base spare held 60 v d p) :
    ∃ t : Tup, v = t.v ∧ d = t.data ∧ p = [] ∧ t.fits := by
  obtain ⟨cs, rfl, hsz⟩ := okWide_struct Tryz.underlying60 hv
  obtain ⟨fuel, hf⟩ := h
  obtain ⟨a, b, c, d, e, f, hl⟩ := list6 (l := cs.toList) (by simpa [cellsTup] using hsz)
  simp only [Value.cells, hl] at hf
  obtain ⟨t, ht, hx, hfit⟩ := trod_tup hf
  simp only [Prod.mk.injEq] at hx
  refine ⟨t, ?_, hx.1, hx.2, hfit⟩
  rw [ht] at hl
  show Value.agg cs = Value.agg t.cells
  rw [← Array.toList_inj.1 hl]
set_option maxRecDepth 100000 in
theorem shut_tup {t : Tup} (hf : t.fits) : DataW.Trod enc Tryz.prog w base spare held 60 t.v t.data [] := by
  have k : ∀ (n : Nat) (s : ByteArray), s ∈ t.l → DataW.trod enc Tryz.prog w base spare held (n + 1) 9 [.string s] = some (strD s, []) := fun n s hs => by
    simp [DataW.trod, Tryz.underlying9, hf s hs, strD]
  refine ⟨4, ?_⟩
  show DataW.trod enc Tryz.prog w base spare held (3 + 1) 60 t.cells.toList = some (t.data, [])
  refine trod_struct3_mk (y0 := (.agg [strD t.a, strD t.b], [])) (y1 := (strD t.c, [])) (y2 := (.agg [.agg [strD t.d, strD t.e], strD t.f], [])) Tryz.underlying60 (by simp [cellsTup, Tup.cells]) ?_ ?_ ?_
  · simp only [cellsObj]
    exact trod_struct2_mk (y0 := (strD t.a, [])) (y1 := (strD t.b, [])) Tryz.underlying24 (by simp [cellsObj, Tup.cells]) (by simp only [cellsStr]; exact k 1 _ (by simp [Tup.l])) (by simp only [cellsStr]; exact k 1 _ (by simp [Tup.l]))
  · simp only [cellsStr]; exact k 2 _ (by simp [Tup.l])
  · simp only [cellsSub]
    refine trod_struct2_mk (y0 := (.agg [strD t.d, strD t.e], [])) (y1 := (strD t.f, [])) Tryz.underlying27 (by simp [cellsSub, Tup.cells]) ?_ (by simp only [cellsStr]; exact k 1 _ (by simp [Tup.l]))
    simp only [cellsObj]
    exact trod_struct2_mk (y0 := (strD t.d, [])) (y1 := (strD t.e, [])) Tryz.underlying24 (by simp [cellsObj, Tup.cells]) (by simp only [cellsStr]; exact k 0 _ (by simp [Tup.l])) (by simp only [cellsStr]; exact k 0 _ (by simp [Tup.l]))
end
end Go.Proofs.YtaikedlkkjnffaaGreatDoor
