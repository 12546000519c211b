/- A law of one's own for a statement that draws its order: one fact is kept, whichever operation comes next; each operation is looked at once. A statement that draws its order, walked in one order: what only reads cells that nobody writes ahead of it is taken first; the others come one behind the other, as they must. Walks: weigh's flag, fits, reckon, order. Walks: weigh's reckon. -/
import Derived.Orders
import Derived.WalkKit
import Derived.OrdersHeld
import Derived.Test.YtdfgbkilaepolaaGreatDoorPW02
import Derived.IntWalk
namespace Go.Proofs.YtdfgbkilaepolaaGreatDoor
open Go.RowKit
variable {P : Program} {ops : Array Oper} {Q : Exit → Act → World → Prop}

def unlisted (n : Nat) (listed : Array Bool) : Nat := (List.range n).countP fun i => !listed.getD i true
def onNormal (K : Act → World → Prop) (Q : Exit → Act → World → Prop) : Exit → Act → World → Prop
  | .normal, a, w => K a w
  | e, a, w => Q e a w
theorem upon_onNormal {o : Oper} {a : Act} {K next : Act → World → Prop} {r : Result Next} (h : o.upon P a next (onNormal K Q) r) : o.upon P a next Q r := by
  cases r with
  | ok n w' =>
    cases n <;> simp only [Oper.upon] at h ⊢ <;>
      first
        | exact h
        | exact Calls.mono h (fun e w'' he => by cases e <;> exact he)
  | halt x w' => cases x <;> simp only [Oper.upon] at h ⊢ <;> exact h
theorem wpOp_one {i : Nat} {o : Oper} {K : Act → World → Prop} {a : Act} {w : World} (hi : ops[i]? = some o) (h : wpList P ops (onNormal K Q) [o] a w) : wpOp P ops Q i K a w := by
  unfold wpList at h
  unfold wpOp
  simp only [hi]
  split
  · rename_i hw
    rw [if_pos hw] at h
    rcases h with h | ⟨h1, h2⟩
    · exact .inl (upon_onNormal h)
    · exact .inr ⟨h1, h2⟩
  · rename_i hw
    rw [if_neg hw] at h
    exact h
end Go.Proofs.YtdfgbkilaepolaaGreatDoor
namespace Go.Proofs.YtdfgbkilaepolaaGreatDoor
open Go.RowKit
section
variable {P : Program} {ops : Array Oper} {Q : Exit → Act → World → Prop} {md : Region.Mode} {S : World → Prop} {E : Nat → Bool}
/-- whatever order is picked; S holds behind each operation that is not of E -/
def wpAnyX (P : Program) (md : Region.Mode) (ops : Array Oper) (Q : Exit → Act → World → Prop) (S : World → Prop) (E : Nat → Bool) : Nat → Array Bool → Act → World → Prop
  | 0, listed, a, w => Region.ready md ops listed = [] ∧ Q .normal a w
  | fuel + 1, listed, a, w =>
    (Region.ready md ops listed = [] → Q .normal a w) ∧
    ∀ i ∈ Region.ready md ops listed, wpOp P ops Q i (fun a' w' => (E i = false → S w') ∧ wpAnyX P md ops Q S E fuel (listed.setIfInBounds i true) a' w') a w
theorem wpAny_of_x : ∀ (fuel : Nat) (listed : Array Bool) (a : Act) (w : World), wpAnyX P md ops Q S E fuel listed a w → wpAny P md ops Q fuel listed a w
  | 0, _, _, _, h => h
  | fuel + 1, _, _, _, h => ⟨h.1, fun i hi => wpOp_mono (fun a' w' h' => wpAny_of_x fuel _ a' w' h'.2) (h.2 i hi)⟩
/-- an operation waits for number i -/
def waitsFor (md : Region.Mode) (o : Oper) (i : Nat) : Bool := o.after.any fun e => Region.binds md e && e.on == i
theorem wpAnyX_first {i : Nat} {oi : Oper} {v : Value} (hi : ops[i]? = some oi) (hsel : ∀ (j : Nat) (o : Oper) cs b, ops[j]? = some o → o.op ≠ .select cs b)
    (hQ : ∀ c a w, Q (.panic c) (a.put oi.dst v) w → Q (.panic c) a w) (hE : ∀ j oj, ops[j]? = some oj → E j = true → waitsFor md oj i = true) (hEi : E i = false) :
    ∀ (fuel : Nat) (listed : Array Bool) (a : Act) (w : World),
      (∀ j oj, ops[j]? = some oj → j ≠ i → listed.getD j true = false → (∀ e ∈ oj.after, Region.binds md e = true → e.on ≠ i) → oi.apart ops oj = true) →
      i ∈ Region.ready md ops listed → YieldsIf P ops S oi v a → S w →
      wpAnyX P md ops Q S E fuel (listed.setIfInBounds i true) (a.put oi.dst v) w → wpAnyX P md ops Q S E (fuel + 1) listed a w := by
  intro fuel
  induction fuel with
  | zero =>
    intro listed a w _ hr hy hS H
    refine ⟨fun h => (by rw [h] at hr; cases hr), fun j hj => ?_⟩
    by_cases hji : j = i
    · subst hji; exact hy.wpOp hi hS ⟨fun _ => hS, H⟩
    · have := ready_mono hj hji
      rw [H.1] at this
      cases this
  | succ fuel ih =>
    intro listed a w hfree hr hy hS H
    refine ⟨fun h => (by rw [h] at hr; cases hr), fun j hj => ?_⟩
    by_cases hji : j = i
    · subst hji; exact hy.wpOp hi hS ⟨fun _ => hS, H⟩
    · have h1 := H.2 j (ready_mono hj hji)
      obtain ⟨hjun, oj, hoj, hall⟩ := mem_ready.1 hj
      have hnot : ∀ e ∈ oj.after, Region.binds md e = true → e.on ≠ i := fun e he hb heq => by
        have h1 := hall e he hb
        have h0 := (mem_ready.1 hr).1
        rw [heq] at h1
        rcases Nat.lt_or_ge i listed.size with h' | h'
        · simp [h'] at h0 h1; rw [h0] at h1; cases h1
        · simp [Array.getElem?_eq_none h'] at h1
      have hEj : E j = false := by
        cases hc : E j with
        | false => rfl
        | true =>
          have := hE j oj hoj hc
          unfold waitsFor at this
          obtain ⟨e, he, hb⟩ := Array.any_eq_true'.1 this
          simp only [Bool.and_eq_true, beq_iff_eq] at hb
          exact absurd hb.2 (hnot e he hb.1)
      have h2 := wpOp_putIf hoj (hfree j oj hoj hji hjun hnot) (fun cs b => hsel i oi cs b hi) (fun cs b => hsel j oj cs b hoj) hQ hy h1
      have hfree' : ∀ k ok, ops[k]? = some ok → k ≠ i → (listed.setIfInBounds j true).getD k true = false →
          (∀ e ∈ ok.after, Region.binds md e = true → e.on ≠ i) → oi.apart ops ok = true := fun k ok hk hki hun hno => by
        refine hfree k ok hk hki ?_ hno
        by_cases hjk : j = k
        · subst hjk; exact hjun
        · rw [Go.getD_set_ne true hjk] at hun; exact hun
      refine wpOp_mono (fun a' w' h3 => ⟨h3.2.1, ih (listed.setIfInBounds j true) a' w' hfree' (ready_mono hr (Ne.symm hji)) h3.1 (h3.2.1 hEj) ?_⟩) h2
      rw [Array.setIfInBounds_comm _ _ hji]
      exact h3.2.2
/-- a way through: what is taken first (true), and what comes because nothing else can (false) -/
def okS (md : Region.Mode) (ops : Array Oper) (Es : List Nat) : List (Bool × Nat) → Array Bool → Bool
  | [], listed => (Region.ready md ops listed).isEmpty
  | (true, i) :: r, listed => (Region.ready md ops listed).contains i && Region.free md ops listed i && !Es.contains i && Es.all (fun j => (ops[j]?).all fun oj => waitsFor md oj i && !listed.getD j true) && okS md ops Es r (listed.setIfInBounds i true)
  | (false, j) :: r, listed => (Region.ready md ops listed == [j]) && okS md ops Es r (listed.setIfInBounds j true)
def wpS (P : Program) (ops : Array Oper) (Q : Exit → Act → World → Prop) (S : World → Prop) (Es : List Nat) : List (Bool × Nat) → Act → World → Prop
  | [], a, w => Q .normal a w
  | (true, i) :: r, a, w => ∃ oi v, ops[i]? = some oi ∧ YieldsIf P ops S oi v a ∧ wpS P ops Q S Es r (a.put oi.dst v) w
  | (false, j) :: r, a, w => wpOp P ops Q j (fun a' w' => (Es.contains j = false → S w') ∧ wpS P ops Q S Es r a' w') a w
theorem wpS_take {Es : List Nat} {i : Nat} {r : List (Bool × Nat)} {d : Option Tmp} {op : Op} {ty : TypeId} {pos : String} {af : Array Edge} {g : Option (Nat × Bool)} {v : Value} {a : Act} {w : World} (hi : ops[i]? = some ⟨d, op, ty, pos, af, g⟩) (hy : YieldsIf P ops S ⟨d, op, ty, pos, af, g⟩ v a) (h : wpS P ops Q S Es r (a.put d v) w) : wpS P ops Q S Es ((true, i) :: r) a w := ⟨_, v, hi, hy, h⟩
theorem wpS_go {Es : List Nat} {j : Nat} {r : List (Bool × Nat)} {d : Option Tmp} {op : Op} {ty : TypeId} {pos : String} {af : Array Edge} {g : Option (Nat × Bool)} {a : Act} {w : World} (hj : ops[j]? = some ⟨d, op, ty, pos, af, g⟩) (h : wpList P ops (onNormal (fun a' w' => (Es.contains j = false → S w') ∧ wpS P ops Q S Es r a' w') Q) [⟨d, op, ty, pos, af, g⟩] a w) : wpS P ops Q S Es ((false, j) :: r) a w := wpOp_one hj h
theorem wpS_end {Es : List Nat} {a : Act} {w : World} (h : Q .normal a w) : wpS P ops Q S Es [] a w := h
theorem wpAnyX_of_s {Es : List Nat} (hsel : Region.noSelect ops = true) (hQ : ∀ c a t v w, Q (.panic c) (a.put (some t) v) w → Q (.panic c) a w) : ∀ (sc : List (Bool × Nat)) (fuel : Nat) (listed : Array Bool) (a : Act) (w : World),
    okS md ops Es sc listed = true → sc.length ≤ fuel → ((∀ j ∈ Es, (ops[j]?).isSome = true → listed.getD j true = false) → S w) → wpS P ops Q S Es sc a w → wpAnyX P md ops Q S (fun j => Es.contains j) fuel listed a w
  | [], fuel, listed, a, w, hok, _, _, h => by
    have hr : Region.ready md ops listed = [] := List.isEmpty_iff.1 hok
    cases fuel with
    | zero => exact ⟨hr, h⟩
    | succ f => exact ⟨fun _ => h, by rw [hr]; simp⟩
  | (true, i) :: r, 0, listed, a, w, _, hf, _, _ => by simp at hf
  | (false, i) :: r, 0, listed, a, w, _, hf, _, _ => by simp at hf
  | (true, i) :: r, fuel + 1, listed, a, w, hok, hf, hS, h => by
    unfold okS at hok
    simp only [Bool.and_eq_true, Bool.not_eq_true', List.all_eq_true] at hok
    obtain ⟨⟨⟨⟨h1, h2⟩, h3⟩, h4⟩, h5⟩ := hok
    obtain ⟨oi, v, hi, hy, h⟩ := h
    have hun : ∀ j ∈ Es, (ops[j]?).isSome = true → listed.getD j true = false := by
      intro j hj hs
      obtain ⟨oj, ho⟩ := Option.isSome_iff_exists.1 hs
      have := h4 j hj
      rw [ho] at this
      simp only [Option.all_some, Bool.and_eq_true, Bool.not_eq_true'] at this
      exact this.2
    have hSw := hS hun
    refine wpAnyX_first hi (Region.noSelect_spec hsel) (fun c a w hh => by
      cases hd : oi.dst with
      | none => rw [hd] at hh; exact hh
      | some t => rw [hd] at hh; exact hQ c a t _ w hh) (fun j oj ho hj => ?_) h3 fuel listed a w (Region.free_spec hi h2) (by simpa using h1) hy hSw ?_
    · have := h4 j (by simpa using hj)
      rw [ho] at this
      simp only [Option.all_some, Bool.and_eq_true] at this
      exact this.1
    · exact wpAnyX_of_s hsel hQ r fuel _ _ _ h5 (by simpa using hf) (fun _ => hSw) h
  | (false, j) :: r, fuel + 1, listed, a, w, hok, hf, _, h => by
    unfold okS at hok
    simp only [Bool.and_eq_true, beq_iff_eq] at hok
    obtain ⟨h1, h2⟩ := hok
    refine ⟨fun h0 => (by rw [h0] at h1; cases h1), fun i hi => ?_⟩
    rw [h1] at hi
    obtain rfl : i = j := by simpa using hi
    refine wpOp_mono (fun a' w' h3 => ⟨h3.1, wpAnyX_of_s hsel hQ r fuel _ a' w' h2 (by simpa using hf) (fun hno => h3.1 ?_) h3.2⟩) h
    cases hc : Es.contains i with
    | false => rfl
    | true =>
      have hiE : i ∈ Es := by simpa using hc
      have hir : i ∈ Region.ready md ops listed := by rw [h1]; simp
      obtain ⟨hjun, oj, hoj, _⟩ := mem_ready.1 hir
      have := hno i hiE (by rw [hoj]; rfl)
      have hlt : i < listed.size := by
        rcases Nat.lt_or_ge i listed.size with h' | h'
        · exact h'
        · rw [Array.getD, dif_neg (by omega)] at hjun; cases hjun
      rw [Array.getD, dif_pos (by simpa using hlt)] at this
      simp at this
/-- the beginning: S is what the taken ones lean on; Es come behind all of them, and S is not asked behind these -/
theorem wp_region_s {id : Nat} {a : Act} {w : World} (S : World → Prop) (Es : List Nat) (sc : List (Bool × Nat)) (hm : P.follows .mixedOrders = true) (hsel : Region.noSelect ops = true) (hok : okS .any ops Es sc (Array.replicate ops.size false) = true) (hlen : sc.length = ops.size)
    (hQ : ∀ c a t v w, Q (.panic c) (a.put (some t) v) w → Q (.panic c) a w) (hS : S w.drew) (h : wpS P ops Q S Es sc a w.drew) : (Code.region id ops true).wp P Q a w :=
  wp_region_any hm (wpAny_of_x _ _ _ _ (wpAnyX_of_s hsel hQ sc _ _ _ _ hok (Nat.le_of_eq hlen) (fun _ => hS) h))
end
end Go.Proofs.YtdfgbkilaepolaaGreatDoor
namespace Go.Proofs.YtdfgbkilaepolaaGreatDoor
open Go.RowKit Go.Maps
@[go_sem] theorem Vl.val_eq (v : Vl) : v.val = .agg #[.int .i64 v.kind, .int .i64 v.n, strV v.s] := rfl
set_option maxHeartbeats 2000000 in
set_option maxRecDepth 100000 in
theorem flag_calls (b : Bool) (w : World) : Calls Tryz.prog 33 #[.bool b] w fun e w' => e = .returned (flagV b).val ∧ Below w.heap.size w w' := by
  cases b
  · go_enter Tryz.func33, Tryz.ntmps33
    go_wp2_with fail
    have hb := (Blk.new w 33 #[.int .i64 1, .int .i64 0, .string ⟨#[]⟩]).alloc (.cells #[.int .i64 1, .int .i64 0, .string ⟨#[]⟩] 33)
    have hB := ((Below.refl w.heap.size w).alloc (Nat.le_refl _) (.cells #[.int .i64 1, .int .i64 0, .string ⟨#[]⟩] 33)).alloc (by simp) (.cells #[.int .i64 1, .int .i64 0, .string ⟨#[]⟩] 33)
    obtain ⟨W, hW⟩ : ∃ W, (w.alloc (.cells #[.int .i64 1, .int .i64 0, .string ⟨#[]⟩] 33)).alloc (.cells #[.int .i64 1, .int .i64 0, .string ⟨#[]⟩] 33) = W := ⟨_, rfl⟩
    rw [hW] at hb hB ⊢
    have hc := hb.cell
    refine bodyPost_ret (v := (flagV false).val) (by simp [results, Tryz.results33, go_sem, hc, flagV, strV]) rfl ?_
    exact ⟨rfl, hB⟩
  · go_enter Tryz.func33, Tryz.ntmps33
    go_wp2_with fail
    have hb := (Blk.new w 33 #[.int .i64 1, .int .i64 1, .string ⟨#[]⟩]).alloc (.cells #[.int .i64 1, .int .i64 1, .string ⟨#[]⟩] 33)
    have hB := ((Below.refl w.heap.size w).alloc (Nat.le_refl _) (.cells #[.int .i64 1, .int .i64 1, .string ⟨#[]⟩] 33)).alloc (by simp) (.cells #[.int .i64 1, .int .i64 1, .string ⟨#[]⟩] 33)
    obtain ⟨W, hW⟩ : ∃ W, (w.alloc (.cells #[.int .i64 1, .int .i64 1, .string ⟨#[]⟩] 33)).alloc (.cells #[.int .i64 1, .int .i64 1, .string ⟨#[]⟩] 33) = W := ⟨_, rfl⟩
    rw [hW] at hb hB ⊢
    have hc := hb.cell
    refine bodyPost_ret (v := (flagV true).val) (by simp [results, Tryz.results33, go_sem, hc, flagV, strV]) rfl ?_
    exact ⟨rfl, hB⟩
set_option maxHeartbeats 4000000 in
set_option maxRecDepth 100000 in
theorem fits_calls (k vk n : Int) (a : ByteArray) (w : World) : Calls Tryz.prog 32 #[.int .i64 k, .agg #[.int .i64 vk, .int .i64 n, .string a]] w fun e w' => e = .returned (.bool (fitsV k ⟨vk, n, a.data.toList⟩)) ∧ Below w.heap.size w w' := by
  obtain ⟨R, hR⟩ : ∃ R, fitsV k ⟨vk, n, a.data.toList⟩ = R := ⟨_, rfl⟩
  rw [hR]
  have hz := Lib.size_eq a
  have hB := Lib.hid ((Below.refl w.heap.size w).alloc (Nat.le_refl _) (.cells #[.int .i64 vk, .int .i64 n, .string a] 33))
  have hc := (Blk.new w 33 #[.int .i64 vk, .int .i64 n, .string a]).cell
  have htl : a.toList = a.data.toList := Lib.toList_data a
  by_cases h1 : vk = k
  · subst h1
    by_cases h3 : vk = 3
    · subst h3
      by_cases h4 : n = 0
      · subst h4
        by_cases h5 : (a.size : Int) ≤ 256
        · have h6 : a.data.toList.length ≤ 256 := by omega
          clear hz
          have hE : Hid (R = true) := Lib.hid (by rw [← hR]; unfold fitsV; simp only [decide_true, Bool.true_and, if_true, decide_eq_true h6])
          clear hR h6 htl
          have d5 : decide ((a.size : Int) ≤ 256) = true := decide_eq_true h5
          go_enter Tryz.func32, Tryz.ntmps32
          go_wp2_with fail
          go_ret
          exact ⟨by rw [hE.out]; rfl, hB.out⟩
        · have h6 : ¬ a.data.toList.length ≤ 256 := by omega
          clear hz
          have hE : Hid (R = false) := Lib.hid (by rw [← hR]; unfold fitsV; simp only [decide_true, Bool.true_and, if_true, decide_eq_false h6])
          clear hR h6 htl
          have d5 : decide ((a.size : Int) ≤ 256) = false := decide_eq_false h5
          go_enter Tryz.func32, Tryz.ntmps32
          go_wp2_with fail
          go_ret
          exact ⟨by rw [hE.out]; rfl, hB.out⟩
      · have hE : Hid (R = false) := Lib.hid (by rw [← hR]; unfold fitsV; simp [h4])
        have e4 : (n == 0) = false := by simpa using h4
        clear hR htl hz
        go_enter Tryz.func32, Tryz.ntmps32
        go_wp2_with fail
        go_ret
        exact ⟨by rw [hE.out]; rfl, hB.out⟩
    · have e3 : (vk == 3) = false := by simpa using h3
      by_cases hs : a = ⟨#[]⟩
      · subst hs
        by_cases h1 : vk = 1
        · subst h1
          by_cases h4 : n = 0 ∨ n = 1
          · have hE : Hid (R = true) := Lib.hid (by rw [← hR]; unfold fitsV; rcases h4 with rfl | rfl <;> rfl)
            have e4 : (n / 2 == 0) = true := by rcases h4 with rfl | rfl <;> rfl
            clear hR htl hz
            go_enter Tryz.func32, Tryz.ntmps32
            go_wp2_with fail
            go_ret
            exact ⟨by rw [hE.out]; rfl, hB.out⟩
          · have hE : Hid (R = false) := Lib.hid (by
              rw [← hR]; unfold fitsV
              have h5 : ¬ n = 0 := fun e => h4 (.inl e)
              have h6 : ¬ n = 1 := fun e => h4 (.inr e)
              simp [h5, h6])
            have e4 : (n / 2 == 0) = false := by
              simp only [beq_eq_false_iff_ne, ne_eq]; omega
            clear hR htl hz
            go_enter Tryz.func32, Tryz.ntmps32
            go_wp2_with fail
            go_ret
            exact ⟨by rw [hE.out]; rfl, hB.out⟩
        · have e1 : (vk == 1) = false := by simpa using h1
          by_cases h4 : -1000000000000000 ≤ n
          · by_cases h5 : n ≤ 1000000000000000
            · have hE : Hid (R = true) := Lib.hid (by rw [← hR]; unfold fitsV mostI; simp [h1, h3, h4, h5])
              have d4 : decide (-1000000000000000 ≤ n) = true := decide_eq_true h4
              have d5 : decide (n ≤ 1000000000000000) = true := decide_eq_true h5
              clear hR htl hz
              go_enter Tryz.func32, Tryz.ntmps32
              go_wp2_with fail
              go_ret
              exact ⟨by rw [hE.out]; rfl, hB.out⟩
            · have hE : Hid (R = false) := Lib.hid (by rw [← hR]; unfold fitsV mostI; simp [h1, h3, h5])
              have d4 : decide (-1000000000000000 ≤ n) = true := decide_eq_true h4
              have d5 : decide (n ≤ 1000000000000000) = false := decide_eq_false h5
              clear hR htl hz
              go_enter Tryz.func32, Tryz.ntmps32
              go_wp2_with fail
              go_ret
              exact ⟨by rw [hE.out]; rfl, hB.out⟩
          · have hE : Hid (R = false) := Lib.hid (by rw [← hR]; unfold fitsV mostI; simp [h1, h3, h4])
            have d4 : decide (-1000000000000000 ≤ n) = false := decide_eq_false h4
            clear hR htl hz
            go_enter Tryz.func32, Tryz.ntmps32
            go_wp2_with fail
            go_ret
            exact ⟨by rw [hE.out]; rfl, hB.out⟩
      · have hne : a.data.toList ≠ [] := by
          intro e
          apply hs
          apply ByteArray.ext
          exact Array.toList_inj.1 e
        have hE : Hid (R = false) := Lib.hid (by
          rw [← hR]; unfold fitsV
          have h9 : a.data.toList.isEmpty = false := by simpa using hne
          rw [if_neg h3]
          split <;> simp only [h9, Bool.false_and, Bool.and_false])
        have e5 : (a.toList == []) = false := by rw [htl]; simpa using hne
        have e6 : a.toList.isEmpty = false := by rw [htl]; simpa using hne
        have e7 : (a.toList == ([] : List UInt8)) = false := e5
        clear hR hz hne
        by_cases h1 : vk = 1
        · subst h1
          clear htl
          go_enter Tryz.func32, Tryz.ntmps32
          go_wp2_with fail
          go_ret
          exact ⟨by rw [hE.out]; rfl, hB.out⟩
        · have e1 : (vk == 1) = false := by simpa using h1
          clear htl
          go_enter Tryz.func32, Tryz.ntmps32
          go_wp2_with fail
          go_ret
          exact ⟨by rw [hE.out]; rfl, hB.out⟩
  · have hE : Hid (R = false) := Lib.hid (by rw [← hR]; unfold fitsV; simp [h1])
    have e1 : (vk != k) = true := by simpa using h1
    clear hR htl hz
    go_enter Tryz.func32, Tryz.ntmps32
    go_wp2_with fail
    go_ret
    exact ⟨by rw [hE.out]; rfl, hB.out⟩
end Go.Proofs.YtdfgbkilaepolaaGreatDoor
namespace Go.Proofs.YtdfgbkilaepolaaGreatDoor
open Go.RowKit Go.Maps
abbrev RkPost (o : Option Int) (w : World) (e : Ending) (w' : World) : Prop := ∃ (n : Int) (ok : Bool), e = .returned (.tuple #[.int .i64 n, .bool ok]) ∧ w = w' ∧ (match o with | some m => ok = true ∧ n = m | none => ok = false)
theorem wrap_id {n : Int} (h1 : -1000000000000000000 ≤ n) (h2 : n ≤ 1000000000000000000) : IntKind.i64.wrap n = n := IntWalk.i64_in n ⟨by omega, by omega⟩
set_option maxHeartbeats 4000000 in
set_option maxRecDepth 100000 in
theorem reckon_plus (k a b : Int) (hk : k = 12 ∨ k = 13) (ha : -mostI ≤ a ∧ a ≤ mostI) (hb : -mostI ≤ b ∧ b ≤ mostI) (w : World) :
    Calls Tryz.prog 37 #[.int .i64 k, .int .i64 a, .int .i64 b] w (RkPost (reckonI k a b) w) := by
  unfold mostI at ha hb
  obtain ⟨a1, a2⟩ := ha
  obtain ⟨b1, b2⟩ := hb
  have r1 : IntKind.i64.wrap (a + b) = a + b := wrap_id (by omega) (by omega)
  have r2 : IntKind.i64.wrap (a - b) = a - b := wrap_id (by omega) (by omega)
  obtain ⟨o, ho⟩ : ∃ o, reckonI k a b = o := ⟨_, rfl⟩
  rw [ho]
  rcases hk with rfl | rfl
  · have e : reckonI 12 a b = if -1000000000000000 ≤ a + b ∧ a + b ≤ 1000000000000000 then some (a + b) else none := rfl
    rw [e] at ho
    clear e
    by_cases h1 : -1000000000000000 ≤ a + b
    · have d1 : decide (-1000000000000000 ≤ a + b) = true := decide_eq_true h1
      by_cases h2 : a + b ≤ 1000000000000000
      · have d2 : decide (a + b ≤ 1000000000000000) = true := decide_eq_true h2
        rw [if_pos ⟨h1, h2⟩] at ho
        have ho' := Lib.hid ho
        clear ho
        go_enter Tryz.func37, Tryz.ntmps37
        go_wp2_with fail
        go_ret2
        exact ⟨_, _, rfl, rfl, by rw [← ho'.out]; exact ⟨rfl, rfl⟩⟩
      · have d2 : decide (a + b ≤ 1000000000000000) = false := decide_eq_false h2
        rw [if_neg (fun h => h2 h.2)] at ho
        have ho' := Lib.hid ho
        clear ho
        go_enter Tryz.func37, Tryz.ntmps37
        go_wp2_with fail
        go_ret2
        exact ⟨_, _, rfl, rfl, by rw [← ho'.out]⟩
    · have d1 : decide (-1000000000000000 ≤ a + b) = false := decide_eq_false h1
      rw [if_neg (fun h => h1 h.1)] at ho
      have ho' := Lib.hid ho
      clear ho
      go_enter Tryz.func37, Tryz.ntmps37
      go_wp2_with fail
      go_ret2
      exact ⟨_, _, rfl, rfl, by rw [← ho'.out]⟩
  · have e : reckonI 13 a b = if -1000000000000000 ≤ a - b ∧ a - b ≤ 1000000000000000 then some (a - b) else none := rfl
    rw [e] at ho
    clear e
    by_cases h1 : -1000000000000000 ≤ a - b
    · have d1 : decide (-1000000000000000 ≤ a - b) = true := decide_eq_true h1
      by_cases h2 : a - b ≤ 1000000000000000
      · have d2 : decide (a - b ≤ 1000000000000000) = true := decide_eq_true h2
        rw [if_pos ⟨h1, h2⟩] at ho
        have ho' := Lib.hid ho
        clear ho
        go_enter Tryz.func37, Tryz.ntmps37
        go_wp2_with fail
        go_ret2
        exact ⟨_, _, rfl, rfl, by rw [← ho'.out]; exact ⟨rfl, rfl⟩⟩
      · have d2 : decide (a - b ≤ 1000000000000000) = false := decide_eq_false h2
        rw [if_neg (fun h => h2 h.2)] at ho
        have ho' := Lib.hid ho
        clear ho
        go_enter Tryz.func37, Tryz.ntmps37
        go_wp2_with fail
        go_ret2
        exact ⟨_, _, rfl, rfl, by rw [← ho'.out]⟩
    · have d1 : decide (-1000000000000000 ≤ a - b) = false := decide_eq_false h1
      rw [if_neg (fun h => h1 h.1)] at ho
      have ho' := Lib.hid ho
      clear ho
      go_enter Tryz.func37, Tryz.ntmps37
      go_wp2_with fail
      go_ret2
      exact ⟨_, _, rfl, rfl, by rw [← ho'.out]⟩
set_option maxHeartbeats 4000000 in
set_option maxRecDepth 100000 in
theorem reckon_times (a b : Int) (ha : -mostI ≤ a ∧ a ≤ mostI) (hb : -mostI ≤ b ∧ b ≤ mostI) (w : World) :
    Calls Tryz.prog 37 #[.int .i64 14, .int .i64 a, .int .i64 b] w (RkPost (reckonI 14 a b) w) := by
  unfold mostI at ha hb
  obtain ⟨a1, a2⟩ := ha
  obtain ⟨b1, b2⟩ := hb
  have r1 : IntKind.i64.wrap (a + b) = a + b := wrap_id (by omega) (by omega)
  have r3 : IntKind.i64.wrap (-a) = -a := wrap_id (by omega) (by omega)
  have r4 : IntKind.i64.wrap (-b) = -b := wrap_id (by omega) (by omega)
  obtain ⟨o, ho⟩ : ∃ o, reckonI 14 a b = o := ⟨_, rfl⟩
  rw [ho]
  have e : reckonI 14 a b = if -1000000000000000 ≤ a * b ∧ a * b ≤ 1000000000000000 then some (a * b) else none := rfl
  rw [e] at ho
  clear e
  by_cases h0 : b = 0
  · subst h0
    have r5 : wrap64 (a * 0) = 0 := by rw [Int.mul_zero]; exact IntWalk.wrap64_in 0 ⟨by omega, by omega⟩
    have ho' : Hid (o = some 0) := Lib.hid (by rw [← ho, Int.mul_zero]; rfl)
    clear ho
    go_enter Tryz.func37, Tryz.ntmps37
    go_wp2_with fail
    go_ret2
    exact ⟨_, _, rfl, rfl, by rw [ho'.out]; exact ⟨rfl, rfl⟩⟩
  have h0' : (b != 0) = true := by simpa using h0
  obtain ⟨m, hm, hm0, hmm⟩ : ∃ m : Int, (if b < -b then -b else b) = m ∧ 0 < m ∧ ((m = b ∧ -b ≤ b ∧ ¬ b < -b) ∨ (m = -b ∧ ¬ -b ≤ b ∧ b < -b)) := by
    by_cases hp : 0 < b
    · exact ⟨b, by rw [if_neg (by omega)], hp, .inl ⟨rfl, by omega, by omega⟩⟩
    · exact ⟨-b, by rw [if_pos (by omega)], by omega, .inr ⟨rfl, by omega, by omega⟩⟩
  have hq1 : 1000000000000000 / m < a ↔ 1000000000000000 < a * m := Int.ediv_lt_iff_lt_mul hm0
  have hq2 : 1000000000000000 / m < -a ↔ 1000000000000000 < -a * m := Int.ediv_lt_iff_lt_mul hm0
  have hab : a * b = a * m ∨ a * b = -(a * m) := by
    rcases hmm with ⟨e, _⟩ | ⟨e, _⟩
    · left; rw [e]
    · right; rw [e, Int.mul_neg, Int.neg_neg]
  have hneg : -a * m = -(a * m) := Int.neg_mul a m
  obtain ⟨q, hq⟩ : ∃ q, 1000000000000000 / m = q := ⟨_, rfl⟩
  have hqn : 0 ≤ q := by rw [← hq]; exact Int.ediv_nonneg (by omega) (by omega)
  have hqm : q ≤ 1000000000000000 := by rw [← hq]; exact Int.ediv_le_self _ (by omega)
  rw [hq] at hq1 hq2
  have hdiv : (m = b ∧ 1000000000000000 / b = q ∧ -b ≤ b ∧ ¬ b < -b) ∨ (m = -b ∧ wrap64 (-Int.tdiv 1000000000000000 b) = q ∧ ¬ -b ≤ b ∧ b < -b) := by
    rcases hmm with ⟨e, h⟩ | ⟨e, h⟩
    · left; rw [← e]; exact ⟨rfl, hq, by rw [e]; exact h⟩
    · right
      refine ⟨e, ?_, h⟩
      have e2 : Int.tdiv 1000000000000000 b = -q := by
        have e3 : b = -m := by omega
        rw [e3, Int.tdiv_neg, Int.tdiv_eq_ediv_of_nonneg (by omega), hq]
      rw [e2, Int.neg_neg]
      exact IntWalk.wrap64_in _ ⟨by omega, by omega⟩
  clear hmm hq
  by_cases c1 : q < a
  · have d1 : decide (q < a) = true := decide_eq_true c1
    have ho' : Hid (o = none) := Lib.hid (by rw [← ho, if_neg]; have := hq1.1 c1; rcases hab with e | e <;> omega)
    clear ho hq1 hq2 hab hneg hm
    rcases hdiv with ⟨rfl, hv, hx, hy⟩ | ⟨rfl, hv, hx, hy⟩
    · go_enter Tryz.func37, Tryz.ntmps37
      go_wp2_with fail
      go_ret2
      exact ⟨_, _, rfl, rfl, by rw [ho'.out]⟩
    · go_enter Tryz.func37, Tryz.ntmps37
      go_wp2_with fail
      go_ret2
      exact ⟨_, _, rfl, rfl, by rw [ho'.out]⟩
  have d1 : decide (q < a) = false := decide_eq_false c1
  by_cases c2 : q < -a
  · have d2 : decide (q < -a) = true := decide_eq_true c2
    have ho' : Hid (o = none) := Lib.hid (by rw [← ho, if_neg]; have := hq2.1 c2; rcases hab with e | e <;> omega)
    clear ho hq1 hq2 hab hneg hm
    rcases hdiv with ⟨rfl, hv, hx, hy⟩ | ⟨rfl, hv, hx, hy⟩
    · go_enter Tryz.func37, Tryz.ntmps37
      go_wp2_with fail
      go_ret2
      exact ⟨_, _, rfl, rfl, by rw [ho'.out]⟩
    · go_enter Tryz.func37, Tryz.ntmps37
      go_wp2_with fail
      go_ret2
      exact ⟨_, _, rfl, rfl, by rw [ho'.out]⟩
  have d2 : decide (q < -a) = false := decide_eq_false c2
  have hr1 : -1000000000000000 ≤ a * b := by
    have h1 : ¬ 1000000000000000 < a * m := fun h => c1 (hq1.2 h)
    have h2 : ¬ 1000000000000000 < -a * m := fun h => c2 (hq2.2 h)
    rcases hab with e | e <;> omega
  have hr2 : a * b ≤ 1000000000000000 := by
    have h1 : ¬ 1000000000000000 < a * m := fun h => c1 (hq1.2 h)
    have h2 : ¬ 1000000000000000 < -a * m := fun h => c2 (hq2.2 h)
    rcases hab with e | e <;> omega
  have ho' : Hid (o = some (a * b)) := Lib.hid (by rw [← ho, if_pos ⟨hr1, hr2⟩])
  have r5 : wrap64 (a * b) = a * b := IntWalk.wrap64_in _ ⟨by omega, by omega⟩
  have r6 : IntKind.i64.wrap (a * b) = a * b := IntWalk.i64_in _ ⟨by omega, by omega⟩
  have d3 : decide (-1000000000000000 ≤ a * b) = true := decide_eq_true hr1
  have d4 : decide (a * b ≤ 1000000000000000) = true := decide_eq_true hr2
  clear ho hq1 hq2 hab hneg hm
  rcases hdiv with ⟨rfl, hv, hx, hy⟩ | ⟨rfl, hv, hx, hy⟩
  · go_enter Tryz.func37, Tryz.ntmps37
    go_wp2_with fail
    go_ret2
    exact ⟨_, _, rfl, rfl, by rw [ho'.out]; exact ⟨rfl, rfl⟩⟩
  · go_enter Tryz.func37, Tryz.ntmps37
    go_wp2_with fail
    go_ret2
    exact ⟨_, _, rfl, rfl, by rw [ho'.out]; exact ⟨rfl, rfl⟩⟩
end Go.Proofs.YtdfgbkilaepolaaGreatDoor
