/- A statement that draws its order, walked in one order: what only reads cells that nobody writes ahead of it is taken first; the others come one behind the other, as they must. Walks: what an edit is read into; the closures of Decode. Rows of any elements, and what a sort leaves of them. No program in sight. -/
import Derived.OrdersHeld
import Derived.Test.YtabcdodjkfknlaaGreatDoorPN05
import Derived.Test.YtabcdodjkfknlaaGreatDoorPN13
import Derived.Test.YtabcdodjkfknlaaGreatDoorPN10
import Derived.Shelf.SlSortCmp.WholeK
namespace Go.Proofs.YtabcdodjkfknlaaGreatDoor
open Go.RowKit
section
variable {P : Program} {ops : Array Oper} {Q : Exit → Act → World → Prop} {md : Region.Mode} {S : World → Prop} {E : Nat → Bool}
/-- whatever order is picked; S holds behind each operation that is not of E -/
def wpAnyX (P : Program) (md : Region.Mode) (ops : Array Oper) (Q : Exit → Act → World → Prop) (S : World → Prop) (E : Nat → Bool) : Nat → Array Bool → Act → World → Prop
  | 0, listed, a, w => Region.ready md ops listed = [] ∧ Q .normal a w
  | fuel + 1, listed, a, w =>
    (Region.ready md ops listed = [] → Q .normal a w) ∧
    ∀ i ∈ Region.ready md ops listed, wpOp P ops Q i (fun a' w' => (E i = false → S w') ∧ wpAnyX P md ops Q S E fuel (listed.setIfInBounds i true) a' w') a w
theorem wpAny_of_x : ∀ (fuel : Nat) (listed : Array Bool) (a : Act) (w : World), wpAnyX P md ops Q S E fuel listed a w → wpAny P md ops Q fuel listed a w
  | 0, _, _, _, h => h
  | fuel + 1, _, _, _, h => ⟨h.1, fun i hi => wpOp_mono (fun a' w' h' => wpAny_of_x fuel _ a' w' h'.2) (h.2 i hi)⟩
/-- an operation waits for number i -/
def waitsFor (md : Region.Mode) (o : Oper) (i : Nat) : Bool := o.after.any fun e => Region.binds md e && e.on == i
theorem wpAnyX_first {i : Nat} {oi : Oper} {v : Value} (hi : ops[i]? = some oi) (hsel : ∀ (j : Nat) (o : Oper) cs b, ops[j]? = some o → o.op ≠ .select cs b)
    (hQ : ∀ c a w, Q (.panic c) (a.put oi.dst v) w → Q (.panic c) a w) (hE : ∀ j oj, ops[j]? = some oj → E j = true → waitsFor md oj i = true) (hEi : E i = false) :
    ∀ (fuel : Nat) (listed : Array Bool) (a : Act) (w : World),
      (∀ j oj, ops[j]? = some oj → j ≠ i → listed.getD j true = false → (∀ e ∈ oj.after, Region.binds md e = true → e.on ≠ i) → oi.apart ops oj = true) →
      i ∈ Region.ready md ops listed → YieldsIf P ops S oi v a → S w →
      wpAnyX P md ops Q S E fuel (listed.setIfInBounds i true) (a.put oi.dst v) w → wpAnyX P md ops Q S E (fuel + 1) listed a w := by
  intro fuel
  induction fuel with
  | zero =>
    intro listed a w _ hr hy hS H
    refine ⟨fun h => (by rw [h] at hr; cases hr), fun j hj => ?_⟩
    by_cases hji : j = i
    · subst hji; exact hy.wpOp hi hS ⟨fun _ => hS, H⟩
    · have := ready_mono hj hji
      rw [H.1] at this
      cases this
  | succ fuel ih =>
    intro listed a w hfree hr hy hS H
    refine ⟨fun h => (by rw [h] at hr; cases hr), fun j hj => ?_⟩
    by_cases hji : j = i
    · subst hji; exact hy.wpOp hi hS ⟨fun _ => hS, H⟩
    · have h1 := H.2 j (ready_mono hj hji)
      obtain ⟨hjun, oj, hoj, hall⟩ := mem_ready.1 hj
      have hnot : ∀ e ∈ oj.after, Region.binds md e = true → e.on ≠ i := fun e he hb heq => by
        have h1 := hall e he hb
        have h0 := (mem_ready.1 hr).1
        rw [heq] at h1
        rcases Nat.lt_or_ge i listed.size with h' | h'
        · simp [h'] at h0 h1; rw [h0] at h1; cases h1
        · simp [Array.getElem?_eq_none h'] at h1
      have hEj : E j = false := by
        cases hc : E j with
        | false => rfl
        | true =>
          have := hE j oj hoj hc
          unfold waitsFor at this
          obtain ⟨e, he, hb⟩ := Array.any_eq_true'.1 this
          simp only [Bool.and_eq_true, beq_iff_eq] at hb
          exact absurd hb.2 (hnot e he hb.1)
      have h2 := wpOp_putIf hoj (hfree j oj hoj hji hjun hnot) (fun cs b => hsel i oi cs b hi) (fun cs b => hsel j oj cs b hoj) hQ hy h1
      have hfree' : ∀ k ok, ops[k]? = some ok → k ≠ i → (listed.setIfInBounds j true).getD k true = false →
          (∀ e ∈ ok.after, Region.binds md e = true → e.on ≠ i) → oi.apart ops ok = true := fun k ok hk hki hun hno => by
        refine hfree k ok hk hki ?_ hno
        by_cases hjk : j = k
        · subst hjk; exact hjun
        · rw [Go.getD_set_ne true hjk] at hun; exact hun
      refine wpOp_mono (fun a' w' h3 => ⟨h3.2.1, ih (listed.setIfInBounds j true) a' w' hfree' (ready_mono hr (Ne.symm hji)) h3.1 (h3.2.1 hEj) ?_⟩) h2
      rw [Array.setIfInBounds_comm _ _ hji]
      exact h3.2.2
/-- a way through: what is taken first (true), and what comes because nothing else can (false) -/
def okS (md : Region.Mode) (ops : Array Oper) (Es : List Nat) : List (Bool × Nat) → Array Bool → Bool
  | [], listed => (Region.ready md ops listed).isEmpty
  | (true, i) :: r, listed => (Region.ready md ops listed).contains i && Region.free md ops listed i && !Es.contains i && Es.all (fun j => (ops[j]?).all fun oj => waitsFor md oj i && !listed.getD j true) && okS md ops Es r (listed.setIfInBounds i true)
  | (false, j) :: r, listed => (Region.ready md ops listed == [j]) && okS md ops Es r (listed.setIfInBounds j true)
def wpS (P : Program) (ops : Array Oper) (Q : Exit → Act → World → Prop) (S : World → Prop) (Es : List Nat) : List (Bool × Nat) → Act → World → Prop
  | [], a, w => Q .normal a w
  | (true, i) :: r, a, w => ∃ oi v, ops[i]? = some oi ∧ YieldsIf P ops S oi v a ∧ wpS P ops Q S Es r (a.put oi.dst v) w
  | (false, j) :: r, a, w => wpOp P ops Q j (fun a' w' => (Es.contains j = false → S w') ∧ wpS P ops Q S Es r a' w') a w
theorem wpS_take {Es : List Nat} {i : Nat} {r : List (Bool × Nat)} {d : Option Tmp} {op : Op} {ty : TypeId} {pos : String} {af : Array Edge} {g : Option (Nat × Bool)} {v : Value} {a : Act} {w : World} (hi : ops[i]? = some ⟨d, op, ty, pos, af, g⟩) (hy : YieldsIf P ops S ⟨d, op, ty, pos, af, g⟩ v a) (h : wpS P ops Q S Es r (a.put d v) w) : wpS P ops Q S Es ((true, i) :: r) a w := ⟨_, v, hi, hy, h⟩
theorem wpS_go {Es : List Nat} {j : Nat} {r : List (Bool × Nat)} {d : Option Tmp} {op : Op} {ty : TypeId} {pos : String} {af : Array Edge} {g : Option (Nat × Bool)} {a : Act} {w : World} (hj : ops[j]? = some ⟨d, op, ty, pos, af, g⟩) (h : wpList P ops (onNormal (fun a' w' => (Es.contains j = false → S w') ∧ wpS P ops Q S Es r a' w') Q) [⟨d, op, ty, pos, af, g⟩] a w) : wpS P ops Q S Es ((false, j) :: r) a w := wpOp_one hj h
theorem wpS_end {Es : List Nat} {a : Act} {w : World} (h : Q .normal a w) : wpS P ops Q S Es [] a w := h
theorem wpAnyX_of_s {Es : List Nat} (hsel : Region.noSelect ops = true) (hQ : ∀ c a t v w, Q (.panic c) (a.put (some t) v) w → Q (.panic c) a w) : ∀ (sc : List (Bool × Nat)) (fuel : Nat) (listed : Array Bool) (a : Act) (w : World),
    okS md ops Es sc listed = true → sc.length ≤ fuel → ((∀ j ∈ Es, (ops[j]?).isSome = true → listed.getD j true = false) → S w) → wpS P ops Q S Es sc a w → wpAnyX P md ops Q S (fun j => Es.contains j) fuel listed a w
  | [], fuel, listed, a, w, hok, _, _, h => by
    have hr : Region.ready md ops listed = [] := List.isEmpty_iff.1 hok
    cases fuel with
    | zero => exact ⟨hr, h⟩
    | succ f => exact ⟨fun _ => h, by rw [hr]; simp⟩
  | (true, i) :: r, 0, listed, a, w, _, hf, _, _ => by simp at hf
  | (false, i) :: r, 0, listed, a, w, _, hf, _, _ => by simp at hf
  | (true, i) :: r, fuel + 1, listed, a, w, hok, hf, hS, h => by
    unfold okS at hok
    simp only [Bool.and_eq_true, Bool.not_eq_true', List.all_eq_true] at hok
    obtain ⟨⟨⟨⟨h1, h2⟩, h3⟩, h4⟩, h5⟩ := hok
    obtain ⟨oi, v, hi, hy, h⟩ := h
    have hun : ∀ j ∈ Es, (ops[j]?).isSome = true → listed.getD j true = false := by
      intro j hj hs
      obtain ⟨oj, ho⟩ := Option.isSome_iff_exists.1 hs
      have := h4 j hj
      rw [ho] at this
      simp only [Option.all_some, Bool.and_eq_true, Bool.not_eq_true'] at this
      exact this.2
    have hSw := hS hun
    refine wpAnyX_first hi (Region.noSelect_spec hsel) (fun c a w hh => by
      cases hd : oi.dst with
      | none => rw [hd] at hh; exact hh
      | some t => rw [hd] at hh; exact hQ c a t _ w hh) (fun j oj ho hj => ?_) h3 fuel listed a w (Region.free_spec hi h2) (by simpa using h1) hy hSw ?_
    · have := h4 j (by simpa using hj)
      rw [ho] at this
      simp only [Option.all_some, Bool.and_eq_true] at this
      exact this.1
    · exact wpAnyX_of_s hsel hQ r fuel _ _ _ h5 (by simpa using hf) (fun _ => hSw) h
  | (false, j) :: r, fuel + 1, listed, a, w, hok, hf, _, h => by
    unfold okS at hok
    simp only [Bool.and_eq_true, beq_iff_eq] at hok
    obtain ⟨h1, h2⟩ := hok
    refine ⟨fun h0 => (by rw [h0] at h1; cases h1), fun i hi => ?_⟩
    rw [h1] at hi
    obtain rfl : i = j := by simpa using hi
    refine wpOp_mono (fun a' w' h3 => ⟨h3.1, wpAnyX_of_s hsel hQ r fuel _ a' w' h2 (by simpa using hf) (fun hno => h3.1 ?_) h3.2⟩) h
    cases hc : Es.contains i with
    | false => rfl
    | true =>
      have hiE : i ∈ Es := by simpa using hc
      have hir : i ∈ Region.ready md ops listed := by rw [h1]; simp
      obtain ⟨hjun, oj, hoj, _⟩ := mem_ready.1 hir
      have := hno i hiE (by rw [hoj]; rfl)
      have hlt : i < listed.size := by
        rcases Nat.lt_or_ge i listed.size with h' | h'
        · exact h'
        · rw [Array.getD, dif_neg (by omega)] at hjun; cases hjun
      rw [Array.getD, dif_pos (by simpa using hlt)] at this
      simp at this
/-- the beginning: S is what the taken ones lean on; Es come behind all of them, and S is not asked behind these -/
theorem wp_region_s {id : Nat} {a : Act} {w : World} (S : World → Prop) (Es : List Nat) (sc : List (Bool × Nat)) (hm : P.follows .mixedOrders = true) (hsel : Region.noSelect ops = true) (hok : okS .any ops Es sc (Array.replicate ops.size false) = true) (hlen : sc.length = ops.size)
    (hQ : ∀ c a t v w, Q (.panic c) (a.put (some t) v) w → Q (.panic c) a w) (hS : S w.drew) (h : wpS P ops Q S Es sc a w.drew) : (Code.region id ops true).wp P Q a w :=
  wp_region_any hm (wpAny_of_x _ _ _ _ (wpAnyX_of_s hsel hQ sc _ _ _ _ hok (Nat.le_of_eq hlen) (fun _ => hS) h))
end
end Go.Proofs.YtabcdodjkfknlaaGreatDoor
namespace Go.Proofs.YtabcdodjkfknlaaGreatDoor
open Go.RowKit
attribute [local go_sem ↓] dapp_op dslK_op
attribute [local go_sem] Oper.semAt_some
def Tbl.cells (t : Tbl) : List Value := [.int .i64 t.num, .int .i64 t.level, .int .i64 t.size, .string t.first, .string t.last]
def rkT : RowK Tbl := ⟨27, 76, 5, Tbl.cells⟩
theorem rkT_ok : rkT.Ok Tryz.prog where
  hs := Tryz.underlying27
  info := info_partsK (show (Tryz.prog.info? 76).map (fun i => (i.zero, i.size, i.bytes)) = some (some (.agg #[.int .i64 0, .int .i64 0, .int .i64 0, .string ⟨#[]⟩, .string ⟨#[]⟩]), 5, 56) by kernel_rfl) rfl (by decide)
  size := fun w => Tryz.sizeOf76 w
  pos := by decide
  len := fun _ => rfl
  one := fun a u hu => by simp [rkT, Tbl.cells] at hu; rcases hu with rfl | rfl | rfl | rfl | rfl <;> rfl
def rkI : RowK Int := ⟨31, 3, 1, fun n => [.int .i64 n]⟩
theorem rkI_ok : rkI.Ok Tryz.prog where
  hs := Tryz.underlying31
  info := info_partsK (show (Tryz.prog.info? 3).map (fun i => (i.zero, i.size, i.bytes)) = some (some (.int .i64 0), 1, 8) by kernel_rfl) rfl (by decide)
  size := fun w => Tryz.sizeOf3 w
  pos := by decide
  len := fun _ => rfl
  one := fun a u hu => by simp [rkI] at hu; rw [hu]; rfl
/-- the variables of Decode: the edit at E, the two readers' methods -/
structure DecAt (B : Nat) (w0 w : World) (R E SM TX Z : Nat) (av dv : Value) (e : Edt) : Prop where
  low : B ≤ R ∧ B ≤ E ∧ B ≤ SM ∧ B ≤ TX ∧ B ≤ w0.heap.size
  nz : Z ≠ E ∧ Z ≠ R
  ne : E ≠ R ∧ SM ≠ R ∧ TX ≠ R
  below : Below B w0 w
  blk : Blk w E 33 #[av, dv, .int .u64 e.floor, .int .u64 e.head, .int .i64 e.log, .int .i64 e.next]
  add : rkT.Own B w av e.add
  drop : rkI.Own B w dv e.drop
  sm : Blk w SM 145 #[.func (.func 103) #[.pointer (some ⟨R, 0, none⟩)] #[]]
  tx : Blk w TX 146 #[.func (.func 104) #[.pointer (some ⟨R, 0, none⟩)] #[]]
  z : Blk w Z 33 #[.slice none 0 0, .slice none 0 0, .int .u64 0, .int .u64 0, .int .i64 0, .int .i64 0]
section
variable {B : Nat} {w0 w w' : World} {R E SM TX Z : Nat} {av dv : Value} {e : Edt} {r : Rdr}
theorem RdAt.blk (h : RdAt B w R r) : ∃ cs, Blk w R 144 cs := by obtain ⟨_, bv, h1, _⟩ := h; exact ⟨_, h1⟩
theorem DecAt.size (h : DecAt B w0 w R E SM TX Z av dv e) : B ≤ w.heap.size := Nat.le_trans h.low.2.2.2.2 h.below.size
theorem DecAt.keeps {S : Nat → Prop} (h : DecAt B w0 w R E SM TX Z av dv e) (hk : Keeps S w w') (hS : ∀ j, S j → B ≤ j ∧ j ≠ E ∧ j ≠ SM ∧ j ≠ TX ∧ av.ownBlock ≠ some j ∧ dv.ownBlock ≠ some j ∧ j ≠ Z) : DecAt B w0 w' R E SM TX Z av dv e :=
  ⟨h.low, h.nz, h.ne, Keeps.below_step h.below h.size hk fun j e => (hS j e).1, h.blk.keeps hk fun e => (hS _ e).2.1 rfl, h.add.keeps hk fun g hg e => (hS g e).2.2.2.2.1 hg, h.drop.keeps hk fun g hg e => (hS g e).2.2.2.2.2.1 hg, h.sm.keeps hk fun e => (hS _ e).2.2.1 rfl, h.tx.keeps hk fun e => (hS _ e).2.2.2.1 rfl, h.z.keeps hk fun e => (hS _ e).2.2.2.2.2.2 rfl⟩
theorem DecAt.rd (h : DecAt B w0 w R E SM TX Z av dv e) (hk : RdKeeps R w w') (hR2 : ∃ cs, Blk w R 144 cs) : DecAt B w0 w' R E SM TX Z av dv e := by
  obtain ⟨cR, bR⟩ := hR2
  refine h.keeps hk fun j e => ?_
  subst e
  exact ⟨h.low.1, h.ne.1.symm, h.ne.2.1.symm, h.ne.2.2.symm, h.add.blk_ne bR (by decide), h.drop.blk_ne bR (by decide), h.nz.2.symm⟩
theorem DecAt.later (h : DecAt B w0 w R E SM TX Z av dv e) (hb : Below w.heap.size w w') : DecAt B w0 w' R E SM TX Z av dv e := h.keeps (S := fun _ => False) (.of_below hb) fun _ e => e.elim
theorem DecAt.sees (h : DecAt B w0 w R E SM TX Z av dv e) : w.cell? ⟨E, 0, none⟩ = some av ∧ w.cell? ⟨SM, 0, none⟩ = some (.func (.func 103) #[.pointer (some ⟨R, 0, none⟩)] #[]) ∧ w.cell? ⟨TX, 0, none⟩ = some (.func (.func 104) #[.pointer (some ⟨R, 0, none⟩)] #[]) :=
  ⟨by rw [h.blk.cell]; rfl, by rw [h.sm.cell]; rfl, by rw [h.tx.cell]; rfl⟩
theorem DecAt.seesI (h : DecAt B w0 w R E SM TX Z av dv e) : w.cell? ⟨E, 1, none⟩ = some dv ∧ w.cell? ⟨SM, 0, none⟩ = some (.func (.func 103) #[.pointer (some ⟨R, 0, none⟩)] #[]) :=
  ⟨by rw [h.blk.cell]; rfl, by rw [h.sm.cell]; rfl⟩
/-- a table put behind those of the edit -/
theorem DecAt.put (h : DecAt B w0 w R E SM TX Z av dv e) (hR : RdAt B w R r) (t : Tbl) (hl : e.add.length ≤ 1000000) :
    ∃ p c w1, (dappOp #[27, 27] 27 #[av, .slice (some ⟨w.heap.size, 0, none⟩) 1 1]).run Tryz.prog (w.alloc (.cells #[.int .i64 t.num, .int .i64 t.level, .int .i64 t.size, .string t.first, .string t.last] 76)) = .ok (.slice p (e.add.length + 1) c) w1 ∧
      w1.frozen? ⟨E, 0, none⟩ = false ∧ (w1.cell? ⟨E, 0, none⟩ = some av ∧ w1.cell? ⟨SM, 0, none⟩ = some (.func (.func 103) #[.pointer (some ⟨R, 0, none⟩)] #[]) ∧ w1.cell? ⟨TX, 0, none⟩ = some (.func (.func 104) #[.pointer (some ⟨R, 0, none⟩)] #[])) ∧ DecAt B w0 (w1.setCell ⟨E, 0, none⟩ (.slice p (e.add.length + 1) c)) R E SM TX Z (.slice p (e.add.length + 1) c) dv { e with add := e.add ++ [t] } ∧ RdAt B (w1.setCell ⟨E, 0, none⟩ (.slice p (e.add.length + 1) c)) R r := by
  have hA := (Below.refl w.heap.size w).alloc (Nat.le_refl _) (.cells #[.int .i64 t.num, .int .i64 t.level, .int .i64 t.size, .string t.first, .string t.last] 76)
  have hx := Blk.new w 76 #[.int .i64 t.num, .int .i64 t.level, .int .i64 t.size, .string t.first, .string t.last]
  have h1 := h.later hA
  have hR1 := hR.later hA
  obtain ⟨p, c, w1, e1, o1, k1, n1⟩ := h1.add.app rkT_ok (t := t) h1.size (g := w.heap.size) (fun j u hj => by rw [hx.cell]; simpa [rkT, Tbl.cells] using hj) hl
  have hlow : ∀ j, av.ownBlock = some j → B ≤ j := fun j hj => (h1.add.lt j hj).1
  obtain ⟨cR, bR⟩ := hR1.blk
  have d1 : av.ownBlock ≠ some E := h1.add.blk_ne h1.blk (by decide)
  have d2 : av.ownBlock ≠ some SM := h1.add.blk_ne h1.sm (by decide)
  have d3 : av.ownBlock ≠ some TX := h1.add.blk_ne h1.tx (by decide)
  have d4 : av.ownBlock ≠ some R := h1.add.blk_ne bR (by decide)
  have bE := h1.blk.keeps k1 d1
  have hR2 := hR1.keeps k1 fun j hj => ⟨hlow j hj, fun e => d4 (e ▸ hj)⟩
  have hd : dv.ownBlock ≠ av.ownBlock ∨ dv.ownBlock = none := by
    cases hv : dv.ownBlock with
    | none => exact .inr rfl
    | some g =>
      refine .inl fun e => ?_
      obtain ⟨cs, hb⟩ := own_blk h1.drop g hv
      exact h1.add.blk_ne hb (by decide) e.symm
  have dr := h1.drop.keeps k1 (fun g hg hs => by
    rcases hd with h | h
    · exact h (by rw [hg, hs])
    · rw [h] at hg; cases hg)
  have sm1 := h1.sm.keeps k1 d2
  have tx1 := h1.tx.keeps k1 d3
  have z1 := h1.z.keeps k1 (h1.add.blk_ne h1.z (by decide))
  have b1 := Keeps.below_step h1.below h1.size k1 hlow
  have ks : Keeps (fun j => j = E) w1 (w1.setCell ⟨E, 0, none⟩ (.slice p (e.add.length + 1) c)) := (Keeps.refl (fun j => j = E) w1).setCell (p := ⟨E, 0, none⟩) (.inl rfl) _
  have hE1 := bE.set_ 0 (.slice p (e.add.length + 1) c)
  refine ⟨p, c, w1, e1, bE.frozen 0, ⟨by rw [bE.cell]; rfl, by rw [sm1.cell]; rfl, by rw [tx1.cell]; rfl⟩, ⟨h.low, h.nz, h.ne, Keeps.below_step b1 (Nat.le_trans h.low.2.2.2.2 b1.size) ks fun j e => by rw [e]; exact h.low.2.1, hE1, ?_, ?_, ?_, ?_, z1.keeps ks h.nz.1⟩, hR2.keeps ks fun j e => ⟨by rw [e]; exact h.low.2.1, by rw [e]; exact h.ne.1⟩⟩
  · have := o1.keeps ks fun g hg e => o1.blk_ne bE (by decide) (by rw [hg, e])
    exact this
  · exact dr.keeps ks fun g hg e => dr.blk_ne bE (by decide) (by rw [hg, e])
  · exact sm1.keeps ks fun e => by
      have := Blk.ne_ sm1 bE (by decide)
      exact this e
  · exact tx1.keeps ks fun e => by
      have := Blk.ne_ tx1 bE (by decide)
      exact this e
/-- a number put behind those of the edit -/
theorem DecAt.putI (h : DecAt B w0 w R E SM TX Z av dv e) (hR : RdAt B w R r) (t : Int) (hl : e.drop.length ≤ 1000000) :
    ∃ p c w1, (dappOp #[31, 31] 31 #[dv, .slice (some ⟨w.heap.size, 0, none⟩) 1 1]).run Tryz.prog (w.alloc (.cells #[.int .i64 t] 3)) = .ok (.slice p (e.drop.length + 1) c) w1 ∧
      w1.frozen? ⟨E, 1, none⟩ = false ∧ (w1.cell? ⟨E, 1, none⟩ = some dv ∧ w1.cell? ⟨SM, 0, none⟩ = some (.func (.func 103) #[.pointer (some ⟨R, 0, none⟩)] #[])) ∧ DecAt B w0 (w1.setCell ⟨E, 1, none⟩ (.slice p (e.drop.length + 1) c)) R E SM TX Z av (.slice p (e.drop.length + 1) c) { e with drop := e.drop ++ [t] } ∧ RdAt B (w1.setCell ⟨E, 1, none⟩ (.slice p (e.drop.length + 1) c)) R r := by
  have hA := (Below.refl w.heap.size w).alloc (Nat.le_refl _) (.cells #[.int .i64 t] 3)
  have hx := Blk.new w 3 #[.int .i64 t]
  have h1 := h.later hA
  have hR1 := hR.later hA
  obtain ⟨p, c, w1, e1, o1, k1, n1⟩ := h1.drop.app rkI_ok (t := t) h1.size (g := w.heap.size) (fun j u hj => by rw [hx.cell]; simpa [rkI] using hj) hl
  have hlow : ∀ j, dv.ownBlock = some j → B ≤ j := fun j hj => (h1.drop.lt j hj).1
  obtain ⟨cR, bR⟩ := hR1.blk
  have d1 : dv.ownBlock ≠ some E := h1.drop.blk_ne h1.blk (by decide)
  have d2 : dv.ownBlock ≠ some SM := h1.drop.blk_ne h1.sm (by decide)
  have d3 : dv.ownBlock ≠ some TX := h1.drop.blk_ne h1.tx (by decide)
  have d4 : dv.ownBlock ≠ some R := h1.drop.blk_ne bR (by decide)
  have bE := h1.blk.keeps k1 d1
  have hR2 := hR1.keeps k1 fun j hj => ⟨hlow j hj, fun e => d4 (e ▸ hj)⟩
  have hd : dv.ownBlock ≠ av.ownBlock ∨ dv.ownBlock = none := by
    cases hv : dv.ownBlock with
    | none => exact .inr rfl
    | some g =>
      refine .inl fun e => ?_
      obtain ⟨cs, hb⟩ := own_blk h1.drop g hv
      exact h1.add.blk_ne hb (by decide) e.symm
  have ad := h1.add.keeps k1 (fun g hg hs => by
    rcases hd with h | h
    · exact h (by rw [hg, hs])
    · rw [h] at hs; cases hs)
  have sm1 := h1.sm.keeps k1 d2
  have tx1 := h1.tx.keeps k1 d3
  have z1 := h1.z.keeps k1 (h1.drop.blk_ne h1.z (by decide))
  have b1 := Keeps.below_step h1.below h1.size k1 hlow
  have ks : Keeps (fun j => j = E) w1 (w1.setCell ⟨E, 1, none⟩ (.slice p (e.drop.length + 1) c)) := (Keeps.refl (fun j => j = E) w1).setCell (p := ⟨E, 1, none⟩) (.inl rfl) _
  have hE1 := bE.set_ 1 (.slice p (e.drop.length + 1) c)
  refine ⟨p, c, w1, e1, bE.frozen 1, ⟨by rw [bE.cell]; rfl, by rw [sm1.cell]; rfl⟩, ⟨h.low, h.nz, h.ne, Keeps.below_step b1 (Nat.le_trans h.low.2.2.2.2 b1.size) ks fun j e => by rw [e]; exact h.low.2.1, hE1, ?_, ?_, ?_, ?_, z1.keeps ks h.nz.1⟩, hR2.keeps ks fun j e => ⟨by rw [e]; exact h.low.2.1, by rw [e]; exact h.ne.1⟩⟩
  · exact ad.keeps ks fun g hg e => ad.blk_ne bE (by decide) (by rw [hg, e])
  · have := o1.keeps ks fun g hg e => o1.blk_ne bE (by decide) (by rw [hg, e])
    exact this
  · exact sm1.keeps ks fun e => by
      have := Blk.ne_ sm1 bE (by decide)
      exact this e
  · exact tx1.keeps ks fun e => by
      have := Blk.ne_ tx1 bE (by decide)
      exact this e
end
end Go.Proofs.YtabcdodjkfknlaaGreatDoor
namespace Go.Proofs.YtabcdodjkfknlaaGreatDoor
open Go.RowKit Go.Sort
section
variable {α : Type} {P : Program} {r : RowK α} {B : Nat} {w : World}
theorem RowK.Ok.en_at (ok : r.Ok P) (t : α) (j : Nat) (h : j < r.K) : some (r.en t)[j]! = (r.en t)[j]? := by
  rw [getElem!_pos _ j (by rw [ok.len]; exact h), List.getElem?_eq_getElem (by rw [ok.len]; exact h)]
theorem RowK.Own.blk {g n c : Nat} {ts : List α} (h : r.Own B w (.slice (some ⟨g, 0, none⟩) n c) ts) : ∃ cur, Blk w g r.e cur ∧ B ≤ g ∧ ts.length ≤ c ∧ c ≤ maxLen ∧ cur.size = c * r.K ∧ cur.toList.take (ts.length * r.K) = r.cells ts := by
  obtain ⟨_, ⟨h, _⟩ | ⟨g', cap, cur, h, h1, h2, h3, h4, h5, h6⟩⟩ := h
  · cases h
  · injection h with e1 e2 e3
    injection e1 with e1
    injection e1 with e1
    subst e1 e3
    exact ⟨cur, h2, h1, h3, h4, h5, h6⟩
end
section
variable {α : Type} [Inhabited α] {P : Program} {r : RowK α} {B : Nat} {w : World}
theorem RowK.Ok.flat (ok : r.Ok P) (ts : List α) : (flatK r.en r.K ts.toArray).toList = r.cells ts := by
  have hK := ok.pos
  apply List.ext_getElem?
  intro i
  rcases Nat.lt_or_ge i (ts.length * r.K) with h | h
  · have hk : i / r.K < ts.length := Nat.div_lt_of_lt_mul (by rw [Nat.mul_comm]; exact h)
    have hd : i / r.K * r.K + i % r.K = i := by rw [Nat.mul_comm]; exact Nat.div_add_mod i r.K
    have h1 := ok.cells_at ts (i / r.K) (i % r.K) ts[i / r.K] (List.getElem?_eq_getElem hk) (Nat.mod_lt _ hK)
    rw [hd] at h1
    rw [h1, ← ok.en_at _ _ (Nat.mod_lt _ hK), Array.getElem?_toList]
    have h2 := get_flatK r.en r.K ts.toArray i (by simpa using h)
    rw [getElem!_pos _ i (by simpa using h)] at h2
    rw [Array.getElem?_eq_getElem (by simpa using h), h2]
    rw [getElem!_pos ts.toArray (i / r.K) (by simpa using hk)]
    simp
  · rw [List.getElem?_eq_none (by simpa using h), List.getElem?_eq_none (by rw [ok.cells_len]; exact h)]
theorem RowK.Own.holdsK (ok : r.Ok P) {g n c : Nat} {ts : List α} (h : r.Own B w (.slice (some ⟨g, 0, none⟩) n c) ts) : HoldsK r.en r.K w g 0 ts.toArray := by
  obtain ⟨cur, hb, _, _, _, _, ht⟩ := h.blk
  intro j hj
  rw [size_flatK] at hj
  have hj' : j < ts.length * r.K := by simpa using hj
  refine ⟨?_, hb.frozen _⟩
  rw [hb.cell, Nat.zero_add]
  have h1 : (flatK r.en r.K ts.toArray).toList[j]? = cur[j]? := by
    rw [ok.flat, ← ht, List.getElem?_take, if_pos hj']
    simp
  rw [← h1, Array.getElem?_toList, Array.getElem?_eq_getElem (by simpa using hj'), getElem!_pos _ j (by simpa using hj')]
  rfl
theorem RowK.Own.sorted (ok : r.Ok P) {g c m : Nat} {ts : List α} {d : Array α} {os : Array Obj} (h : r.Own B w (.slice (some ⟨g, 0, none⟩) ts.length c) ts) (hd : d.size = ts.length) :
    r.Own B (sortWorldK r.en r.K w g 0 m d os) (.slice (some ⟨g, 0, none⟩) ts.length c) d.toList ∧ Keeps (fun j => j = g) w (sortWorldK r.en r.K w g 0 m d os) := by
  obtain ⟨cur, hb, h1, h2, h3, h4, h5⟩ := h.blk
  have hlt := hb.lt
  have hH : (sortWorldK r.en r.K w g 0 m d os).heap = (w.heap.modify g (onCells (putCells id 0 (flatK r.en r.K d)))) ++ os := rfl
  have hlen : d.toList.length = ts.length := by simpa using hd
  constructor
  · unfold RowK.Own
    rw [hlen]
    refine ⟨by rw [ok.cells_len, hlen], .inr ⟨g, c, putCells id 0 (flatK r.en r.K d) cur, rfl, h1, ?_, h2, h3, ?_, ?_⟩⟩
    · rw [hH, Array.getElem?_append_left (by simpa using hlt), Array.getElem?_modify, if_pos rfl]
      unfold Blk at hb
      rw [hb]
      rfl
    · rw [← h4]; simp [putCells]
    · apply List.ext_getElem?
      intro i
      rw [List.getElem?_take]
      rcases Nat.lt_or_ge i (ts.length * r.K) with hi | hi
      · rw [if_pos hi, ← show (flatK r.en r.K d).toList = r.cells d.toList from ok.flat d.toList]
        rw [Array.getElem?_toList, Array.getElem?_toList]
        have hi2 : i < (flatK r.en r.K d).size := by rw [size_flatK, hd]; exact hi
        have hi3 : i < cur.size := by rw [h4]; exact Nat.lt_of_lt_of_le hi (Nat.mul_le_mul_right r.K h2)
        rw [Array.getElem?_eq_getElem hi2]
        simp only [putCells, Array.getElem?_mapIdx, Array.getElem?_eq_getElem hi3, Option.map_some]
        rw [if_pos ⟨Nat.zero_le _, by omega⟩, Nat.sub_zero, getElem!_pos _ i hi2]
        rfl
      · rw [if_neg (by omega), List.getElem?_eq_none (by rw [ok.cells_len, hlen]; exact hi)]
  · refine ⟨rfl, rfl, rfl, by rw [hH]; simp, fun k hk hs => ?_⟩
    rw [hH, Array.getElem?_append_left (by simpa using hk), Array.getElem?_modify, if_neg (fun e => hs e.symm)]
theorem sortedIn_pairwiseG {c : α → α → Int} (hlt : ∀ x y, ltOf c x y = decide (c x y < 0)) {d : Array α} (h : SortedIn (ltOf c) 0 d.size d) : d.toList.Pairwise fun a b => ¬ c b a < 0 := by
  rw [List.pairwise_iff_getElem]
  intro i j hi hj hij
  have := h i j (Nat.zero_le _) hij (by simpa using hj)
  rw [hlt, decide_eq_false_iff_not] at this
  rw [getElem!_pos d i (by simpa using hi), getElem!_pos d j (by simpa using hj)] at this
  simpa using this
theorem permIn_permG {d d' : Array α} (h : PermIn 0 d.size d d') : d'.toList.Perm d.toList := by
  obtain ⟨h1, _, h3⟩ := h
  rw [← h1] at h3
  have : d'.extract 0 d'.size = d' := by simp
  rw [this, h1] at h3
  have e : d.extract 0 d.size = d := by simp
  rwa [e] at h3
end
end Go.Proofs.YtabcdodjkfknlaaGreatDoor
