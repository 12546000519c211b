/- The order of tables, which versions may be, what an edit makes of one. No program in sight. Rows of any elements in memory: owned, read, appended to; what putting one in leaves. No program in sight. Bytes in memory: cut, and put behind bytes. -/
import Derived.Test.YtabcdodjkfknlaaGreatDoorPL06
import Derived.Test.YtabcdodjkfknlaaGreatDoorPL01
import Derived.Test.YtabcdodjkfknlaaGreatDoorPL02
import Derived.Lib.AppendStr
namespace Go.Proofs.YtabcdodjkfknlaaGreatDoor
open Go.RowKit
/-- the first that is not nothing -/
def orI (a b : Int) : Int := if a = 0 then b else a
def cmpI (a b : Int) : Int := if a < b then -1 else if b < a then 1 else 0
/-- a way to hold two things against each other -/
structure Cmp3 {α : Type} (c : α → α → Int) : Prop where
  flip : ∀ a b, c b a = - c a b
  trans : ∀ a b d, c a b < 0 → c b d < 0 → c a d < 0
  same : ∀ a b d, c a b = 0 → c a d = c b d
theorem cmpI_3 : Cmp3 cmpI := by
  refine ⟨fun a b => ?_, fun a b d => ?_, fun a b d => ?_⟩
  · unfold cmpI; split <;> split <;> (try split) <;> omega
  · unfold cmpI; split <;> split <;> split <;> (try split) <;> (try split) <;> (try split) <;> omega
  · intro h
    have : a = b := by unfold cmpI at h; split at h <;> (try split at h) <;> omega
    rw [this]
theorem cmpI_eq {a b : Int} (h : cmpI a b = 0) : a = b := by unfold cmpI at h; split at h <;> (try split at h) <;> omega
theorem cmpI_self (a : Int) : cmpI a a = 0 := by unfold cmpI; simp
theorem cmpI_lt {a b : Int} : cmpI a b < 0 ↔ a < b := by
  unfold cmpI
  split
  · simp; assumption
  · split <;> simp <;> omega
theorem cb_3 : Cmp3 Lib.compareBytes := by
  refine ⟨cb_flip, fun a b d h1 h2 => ?_, fun a b d h => ?_⟩
  · have a1 := cb_three a b
    have a2 := cb_three b d
    rw [cb_trans a b d (by omega) (by omega)]
    decide
  · rw [cb_eq a b h]
theorem Cmp3.lex {α : Type} {c d : α → α → Int} (hc : Cmp3 c) (hd : Cmp3 d) : Cmp3 fun a b => orI (c a b) (d a b) := by
  refine ⟨fun a b => ?_, fun a b e h1 h2 => ?_, fun a b e h => ?_⟩
  · show orI (c b a) (d b a) = - orI (c a b) (d a b)
    unfold orI
    have := hc.flip a b
    have := hd.flip a b
    split <;> split <;> omega
  · change orI (c a b) (d a b) < 0 at h1
    change orI (c b e) (d b e) < 0 at h2
    show orI (c a e) (d a e) < 0
    unfold orI at *
    by_cases z1 : c a b = 0
    · rw [if_pos z1] at h1
      rw [hc.same _ _ e z1]
      by_cases z2 : c b e = 0
      · rw [if_pos z2] at h2 ⊢
        exact hd.trans _ _ _ h1 h2
      · rw [if_neg z2] at h2 ⊢
        exact h2
    · rw [if_neg z1] at h1
      by_cases z2 : c b e = 0
      · have z3 : c a e = c a b := by
          have e1 := hc.flip a b
          have e2 := hc.flip a e
          have e3 := hc.flip b e
          have := hc.same b e a z2
          omega
        rw [z3, if_neg z1]
        exact h1
      · rw [if_neg z2] at h2
        have := hc.trans _ _ _ h1 h2
        rw [if_neg (by omega)]
        exact this
  · change orI (c a b) (d a b) = 0 at h
    show orI (c a e) (d a e) = orI (c b e) (d b e)
    unfold orI at *
    by_cases z1 : c a b = 0
    · rw [if_pos z1] at h
      rw [hc.same _ _ e z1, hd.same _ _ e h]
    · rw [if_neg z1] at h
      exact absurd h z1
theorem Cmp3.on {α β : Type} {c : β → β → Int} (hc : Cmp3 c) (f : α → β) : Cmp3 fun a b => c (f a) (f b) :=
  ⟨fun _ _ => hc.flip _ _, fun _ _ _ => hc.trans _ _ _, fun _ _ _ => hc.same _ _ _⟩
section
variable {α : Type} {c : α → α → Int}
theorem Cmp3.self (hc : Cmp3 c) (a : α) : c a a = 0 := by have := hc.flip a a; omega
theorem Cmp3.ntrans (hc : Cmp3 c) {x y z : α} (h1 : ¬ c x y < 0) (h2 : ¬ c y z < 0) : ¬ c x z < 0 := by
  intro h3
  have e1 := hc.flip x y
  by_cases h4 : c x y = 0
  · rw [hc.same _ _ z h4] at h3; exact h2 h3
  · exact h2 (hc.trans y x z (by omega) h3)
/-- one behind the other -/
def Srt (c : α → α → Int) (l : List α) : Prop := l.Pairwise fun a b => c a b < 0
theorem Srt.ext (hc : Cmp3 c) : ∀ {a b : List α}, Srt c a → Srt c b → (∀ t, t ∈ a ↔ t ∈ b) → a = b
  | [], [], _, _, _ => rfl
  | [], u :: b, _, _, h => by have := (h u).2 (by simp); simp at this
  | t :: a, [], _, _, h => by have := (h t).1 (by simp); simp at this
  | t :: a, u :: b, ha, hb, h => by
    have ha1 := List.pairwise_cons.1 ha
    have hb1 := List.pairwise_cons.1 hb
    have e : t = u := by
      rcases List.mem_cons.1 ((h t).1 List.mem_cons_self) with e | e
      · exact e
      · rcases List.mem_cons.1 ((h u).2 List.mem_cons_self) with e' | e'
        · exact e'.symm
        · have h1 := hb1.1 t e
          have h2 := ha1.1 u e'
          rw [hc.flip] at h1
          omega
    subst e
    rw [Srt.ext hc ha1.2 hb1.2 fun x => ?_]
    constructor
    · intro hx
      rcases List.mem_cons.1 ((h x).1 (List.mem_cons_of_mem _ hx)) with e | e
      · have := ha1.1 x hx; rw [e, hc.self] at this; omega
      · exact e
    · intro hx
      rcases List.mem_cons.1 ((h x).2 (List.mem_cons_of_mem _ hx)) with e | e
      · have := hb1.1 x hx; rw [e, hc.self] at this; omega
      · exact e
end
/-- the order of tables -/
def ordT (a b : Tbl) : Int := if cmpI a.level b.level ≠ 0 ∨ a.level = 0 then orI (cmpI a.level b.level) (cmpI a.num b.num) else orI (Lib.compareBytes a.first.data.toList b.first.data.toList) (cmpI a.num b.num)
/-- a table's first key, so far as it counts in the order -/
def Tbl.key (t : Tbl) : List UInt8 := if t.level = 0 then [] else t.first.data.toList
theorem ordT_lex (a b : Tbl) : ordT a b = orI (cmpI a.level b.level) (orI (Lib.compareBytes a.key b.key) (cmpI a.num b.num)) := by
  unfold ordT
  by_cases h : cmpI a.level b.level = 0
  · have e := cmpI_eq h
    by_cases h0 : a.level = 0
    · rw [if_pos (.inr h0)]
      have k1 : a.key = [] := if_pos h0
      have k2 : b.key = [] := if_pos (by rw [← e]; exact h0)
      rw [k1, k2, h, cb_self]
      rfl
    · rw [if_neg (by rintro (h1 | h1); exact h1 h; exact h0 h1)]
      have k1 : a.key = a.first.data.toList := if_neg h0
      have k2 : b.key = b.first.data.toList := if_neg (by rw [← e]; exact h0)
      rw [k1, k2, h]
      rfl
  · rw [if_pos (.inl h)]
    unfold orI
    rw [if_neg h, if_neg h]
theorem ordT_3 : Cmp3 ordT := by
  have := (cmpI_3.on Tbl.level).lex ((cb_3.on Tbl.key).lex (cmpI_3.on Tbl.num))
  have e : ordT = fun a b => orI (cmpI a.level b.level) (orI (Lib.compareBytes a.key b.key) (cmpI a.num b.num)) := by
    funext a b; exact ordT_lex a b
  rw [e]
  exact this
theorem ordT_num {a b : Tbl} (h : ordT a b = 0) : a.num = b.num := by
  rw [ordT_lex] at h
  unfold orI at h
  split at h
  · split at h
    · exact cmpI_eq h
    · exact absurd h ‹_›
  · exact absurd h ‹_›
def leB (a b : ByteArray) : Bool := !(Op.bytesLess b.toList a.toList)
def ltB (a b : ByteArray) : Bool := Op.bytesLess a.toList b.toList
/-- may a table be, where the next file's number is n? -/
def Tbl.ok (n : Int) (t : Tbl) : Bool := decide (1 ≤ t.num) && decide (t.num < n) && decide (0 ≤ t.level) && decide (t.level < 4) && decide (1 ≤ t.size) && !oddI t.size && leB t.first t.last
/-- may two tables stand one behind the other? -/
def pairOk (u t : Tbl) : Bool := decide (ordT u t < 0) && !(decide (u.level = t.level) && decide (0 < t.level) && !ltB u.last t.first)
/-- is the i-th table right? -/
def stepOk (n : Int) (l : List Tbl) (i : Nat) : Bool := match l[i]? with
  | none => true
  | some t => t.ok n && (decide (i = 0) || match l[i - 1]? with | none => true | some u => pairOk u t)
def Ver.headOk (v : Ver) : Bool := decide (1 ≤ v.next) && !oddI v.next && decide (0 ≤ v.log) && decide (v.log ≤ v.next) && decide (v.floor ≤ v.head)
/-- may a version be? -/
def Ver.ok (v : Ver) : Bool := v.headOk && (List.range v.tables.length).all (stepOk v.next v.tables) && decide ((v.tables.map Tbl.num).Nodup)
theorem Ver.ok_iff {v : Ver} : v.ok = true ↔ v.headOk = true ∧ (∀ i, i < v.tables.length → stepOk v.next v.tables i = true) ∧ (v.tables.map Tbl.num).Nodup := by
  unfold Ver.ok
  rw [Bool.and_eq_true, Bool.and_eq_true, List.all_eq_true, decide_eq_true_eq, and_assoc]
  exact ⟨fun ⟨a, b, c⟩ => ⟨a, fun i hi => b i (List.mem_range.2 hi), c⟩, fun ⟨a, b, c⟩ => ⟨a, fun i hi => b i (List.mem_range.1 hi), c⟩⟩
theorem adj_srt {α : Type} {c : α → α → Int} (hc : Cmp3 c) : ∀ {l : List α}, (∀ i a b, l[i]? = some a → l[i + 1]? = some b → c a b < 0) → Srt c l
  | [], _ => List.Pairwise.nil
  | [a], _ => by unfold Srt; simp
  | a :: b :: l, h => by
    have ih : Srt c (b :: l) := adj_srt hc fun i x y hx hy => h (i + 1) x y (by simpa using hx) (by simpa using hy)
    have hab := h 0 a b rfl rfl
    refine List.pairwise_cons.2 ⟨fun x hx => ?_, ih⟩
    rcases List.mem_cons.1 hx with rfl | hx
    · exact hab
    · exact hc.trans _ _ _ hab ((List.pairwise_cons.1 ih).1 x hx)
theorem stepOk_pair {n : Int} {l : List Tbl} {i : Nat} {a b : Tbl} (ha : l[i]? = some a) (hb : l[i + 1]? = some b) (h : stepOk n l (i + 1) = true) : b.ok n = true ∧ pairOk a b = true := by
  unfold stepOk at h
  rw [hb] at h
  simp only [Nat.add_sub_cancel] at h
  rw [ha] at h
  simp only [Bool.and_eq_true, Bool.or_eq_true, decide_eq_true_eq] at h
  refine ⟨h.1, ?_⟩
  rcases h.2 with h2 | h2
  · omega
  · exact h2
theorem Ver.ok_srt {v : Ver} (h : v.ok = true) : Srt ordT v.tables := by
  obtain ⟨_, h2, _⟩ := Ver.ok_iff.1 h
  refine adj_srt ordT_3 fun i a b ha hb => ?_
  have := (stepOk_pair ha hb (h2 (i + 1) (List.getElem?_eq_some_iff.1 hb).1)).2
  unfold pairOk at this
  simp only [Bool.and_eq_true, decide_eq_true_eq] at this
  exact this.1
theorem Ver.ok_tbl {v : Ver} (h : v.ok = true) {t : Tbl} (ht : t ∈ v.tables) : t.ok v.next = true := by
  obtain ⟨_, h2, _⟩ := Ver.ok_iff.1 h
  obtain ⟨i, hi⟩ := List.getElem?_of_mem ht
  have := h2 i (List.getElem?_eq_some_iff.1 hi).1
  unfold stepOk at this
  rw [hi] at this
  simp only [Bool.and_eq_true] at this
  exact this.1
/-- one laid into a row in order -/
def insT : List Tbl → Tbl → List Tbl
  | [], t => [t]
  | u :: l, t => if ordT u t < 0 then u :: insT l t else t :: u :: l
def sortT (l : List Tbl) : List Tbl := l.foldl insT []
theorem insT_mem : ∀ (l : List Tbl) (t x : Tbl), x ∈ insT l t ↔ x ∈ l ∨ x = t
  | [], t, x => by simp [insT]
  | u :: l, t, x => by
    unfold insT
    split
    · rw [List.mem_cons, insT_mem l t x, List.mem_cons]; exact or_assoc.symm
    · rw [List.mem_cons, List.mem_cons]; exact ⟨fun h => h.elim .inr .inl, fun h => h.elim .inr .inl⟩
theorem insT_srt : ∀ (l : List Tbl) (t : Tbl), (∀ u ∈ l, u.num ≠ t.num) → Srt ordT l → Srt ordT (insT l t)
  | [], t, _, _ => by show List.Pairwise _ [t]; simp
  | u :: l, t, hn, h => by
    have h1 := List.pairwise_cons.1 h
    unfold insT
    split
    · rename_i hl
      refine List.pairwise_cons.2 ⟨fun x hx => ?_, insT_srt l t (fun u hu => hn u (by simp [hu])) h1.2⟩
      rcases (insT_mem l t x).1 hx with e | e
      · exact h1.1 x e
      · rw [e]; exact hl
    · rename_i hl
      have hne : ordT u t ≠ 0 := fun e => hn u (by simp) (ordT_num e)
      have hg : ordT t u < 0 := by have := ordT_3.flip u t; omega
      refine List.pairwise_cons.2 ⟨fun x hx => ?_, h⟩
      rcases List.mem_cons.1 hx with e | e
      · rw [e]; exact hg
      · exact ordT_3.trans _ _ _ hg (h1.1 x e)
theorem foldl_insT : ∀ (l s : List Tbl), ((s ++ l).map Tbl.num).Nodup → Srt ordT s → Srt ordT (l.foldl insT s) ∧ ∀ x, x ∈ l.foldl insT s ↔ x ∈ s ∨ x ∈ l
  | [], s, _, h => ⟨h, fun x => by simp⟩
  | t :: l, s, hn, h => by
    have hn1 : ∀ u ∈ s, u.num ≠ t.num := by
      intro u hu e
      rw [List.map_append, List.nodup_append] at hn
      exact hn.2.2 u.num (List.mem_map_of_mem hu) t.num (by simp) e
    have hp : ((insT s t ++ l).map Tbl.num).Nodup := by
      have : ((insT s t ++ l).map Tbl.num).Perm ((s ++ t :: l).map Tbl.num) := by
        refine List.Perm.map _ ?_
        have : ∀ (s : List Tbl), (insT s t).Perm (t :: s) := by
          intro s
          induction s with
          | nil => exact List.Perm.refl _
          | cons u s ih =>
            unfold insT
            split
            · exact (List.Perm.cons u ih).trans (List.Perm.swap _ _ _)
            · exact List.Perm.refl _
        exact ((this s).append_right l).trans (List.perm_middle (a := t) (l₁ := s) (l₂ := l)).symm
      exact this.nodup_iff.2 hn
    obtain ⟨h1, h2⟩ := foldl_insT l (insT s t) hp (insT_srt s t hn1 h)
    refine ⟨h1, fun x => ?_⟩
    rw [List.foldl_cons, h2 x, insT_mem, List.mem_cons, or_assoc]
theorem sortT_srt {l : List Tbl} (h : (l.map Tbl.num).Nodup) : Srt ordT (sortT l) ∧ ∀ x, x ∈ sortT l ↔ x ∈ l := by
  have := foldl_insT l [] h List.Pairwise.nil
  exact ⟨this.1, fun x => by rw [show sortT l = l.foldl insT [] from rfl, this.2 x]; simp⟩
theorem nodup_of_nums {l : List Tbl} (h : (l.map Tbl.num).Nodup) : l.Nodup := by
  unfold List.Nodup at *
  rw [List.pairwise_map] at h
  exact h.imp fun h e => h (by rw [e])
/-- what any sort leaves of tables of different numbers -/
theorem sortT_of_perm {s l : List Tbl} (hp : s.Perm l) (hn : (l.map Tbl.num).Nodup) (hs : s.Pairwise fun a b => ¬ ordT b a < 0) : s = sortT l := by
  obtain ⟨h1, h2⟩ := sortT_srt hn
  refine Srt.ext ordT_3 ?_ h1 fun t => by rw [h2, hp.mem_iff]
  have hn' : (s.map Tbl.num).Nodup := (hp.map Tbl.num).nodup_iff.2 hn
  unfold List.Nodup at hn'
  rw [List.pairwise_map] at hn'
  refine List.Pairwise.imp₂ (fun a b h1 h2 => ?_) hs hn'
  have := ordT_3.flip a b
  have : ordT a b ≠ 0 := fun e => h2 (ordT_num e)
  omega
theorem sortT_self {l : List Tbl} (h : Srt ordT l) (hn : (l.map Tbl.num).Nodup) : sortT l = l :=
  (sortT_of_perm (List.Perm.refl l) hn (h.imp fun {a b} h => by have := ordT_3.flip a b; omega)).symm
def dropT : List Tbl → List Int → Option (List Tbl)
  | l, [] => some l
  | l, n :: ns => if l.any (fun t => decide (t.num = n)) then dropT (l.filter fun t => !decide (t.num = n)) ns else none
def addT : List Tbl → List Tbl → Option (List Tbl)
  | l, [] => some l
  | l, t :: ts => if l.any (fun u => decide (u.num = t.num)) then none else addT (l ++ [t]) ts
def Ver.with_ (v : Ver) (e : Edt) (l : List Tbl) : Ver := ⟨sortT l, max v.floor e.floor, max v.head e.head, max v.log e.log, max v.next e.next⟩
/-- what an edit makes of a version -/
def applyV (v : Ver) (e : Edt) : Ver × Int :=
  if v.ok = false then (Ver.zero, 9) else if e.right = false then (Ver.zero, 1) else
    match dropT v.tables e.drop with
    | none => (Ver.zero, 4)
    | some l => match addT l e.add with
      | none => (Ver.zero, 3)
      | some l' => if (v.with_ e l').ok = false then (Ver.zero, 11) else (v.with_ e l', 0)
theorem dropT_nodup : ∀ {ns : List Int} {l l' : List Tbl}, dropT l ns = some l' → (l.map Tbl.num).Nodup → (l'.map Tbl.num).Nodup ∧ l'.length ≤ l.length
  | [], l, l', h, hn => by obtain rfl := Option.some.inj h; exact ⟨hn, Nat.le_refl _⟩
  | n :: ns, l, l', h, hn => by
    unfold dropT at h
    split at h
    · obtain ⟨h1, h2⟩ := dropT_nodup h (((List.filter_sublist (p := fun t => !decide (t.num = n)) (l := l)).map Tbl.num).nodup hn)
      exact ⟨h1, Nat.le_trans h2 (List.length_filter_le _ _)⟩
    · cases h
theorem addT_all : ∀ (ts l : List Tbl), ((l ++ ts).map Tbl.num).Nodup → addT l ts = some (l ++ ts)
  | [], l, _ => by unfold addT; simp
  | t :: ts, l, h => by
    unfold addT
    rw [if_neg, addT_all ts (l ++ [t]) (by simpa using h)]
    · simp
    · rw [List.any_eq_true]
      rintro ⟨u, hu, e⟩
      rw [List.map_append, List.nodup_append] at h
      exact h.2.2 u.num (List.mem_map_of_mem hu) t.num (by simp) (by simpa using e)
def Ver.first : Ver := ⟨[], 0, 0, 0, 1⟩
theorem Ver.whole_right {v : Ver} (h : v.ok = true) : v.whole.right = true := by
  obtain ⟨h1, _, _⟩ := Ver.ok_iff.1 h
  unfold Ver.headOk at h1
  simp only [Bool.and_eq_true, Bool.not_eq_true', decide_eq_true_eq] at h1
  obtain ⟨⟨⟨⟨a1, a2⟩, a3⟩, a4⟩, a5⟩ := h1
  have a6 := oddI_no.1 a2
  have b1 : oddI v.log = false := oddI_no.2 (by omega)
  unfold Edt.right Ver.whole
  simp only [b1, a2, Bool.not_false, Bool.true_and, List.all_nil, List.all_eq_true]
  intro t ht
  have := Ver.ok_tbl h ht
  unfold Tbl.ok at this
  simp only [Bool.and_eq_true, Bool.not_eq_true', decide_eq_true_eq] at this
  obtain ⟨⟨⟨⟨⟨⟨c1, c2⟩, c3⟩, c4⟩, c5⟩, c6⟩, c7⟩ := this
  unfold Tbl.right
  rw [oddI_no.2 (by omega : 0 ≤ t.num ∧ _), oddI_no.2 (by omega : 0 ≤ t.level ∧ _), c6]
  rfl
/-- a version's edit makes it of nothing -/
theorem apply_whole {v : Ver} (h : v.ok = true) : applyV Ver.first v.whole = (v, 0) := by
  obtain ⟨h1, h2, h3⟩ := Ver.ok_iff.1 h
  have h1' := h1
  unfold Ver.headOk at h1
  simp only [Bool.and_eq_true, Bool.not_eq_true', decide_eq_true_eq] at h1
  obtain ⟨⟨⟨⟨a1, a2⟩, a3⟩, a4⟩, a5⟩ := h1
  have e : Ver.first.with_ v.whole v.tables = v := by
    unfold Ver.with_ Ver.first Ver.whole
    rw [sortT_self (Ver.ok_srt h) h3]
    obtain ⟨_, _, _, _, _⟩ := v
    simp only [Ver.mk.injEq, true_and] at *
    refine ⟨by omega, by omega, by omega, by omega⟩
  unfold applyV
  rw [if_neg (by decide), if_neg (by rw [Ver.whole_right h]; simp)]
  show (match some ([] : List Tbl) with | none => (Ver.zero, (4 : Int)) | some l => match addT l v.whole.add with | none => (Ver.zero, 3) | some l' => if (Ver.first.with_ v.whole l').ok = false then (Ver.zero, 11) else (Ver.first.with_ v.whole l', 0)) = _
  show (match addT [] v.tables with | none => (Ver.zero, (3 : Int)) | some l' => if (Ver.first.with_ v.whole l').ok = false then (Ver.zero, 11) else (Ver.first.with_ v.whole l', 0)) = _
  rw [addT_all v.tables [] (by simpa using h3)]
  show (if (Ver.first.with_ v.whole ([] ++ v.tables)).ok = false then (Ver.zero, (11 : Int)) else (Ver.first.with_ v.whole ([] ++ v.tables), 0)) = _
  rw [List.nil_append, e, if_neg (by rw [h]; simp)]
end Go.Proofs.YtabcdodjkfknlaaGreatDoor
namespace Go.Proofs.YtabcdodjkfknlaaGreatDoor
open Go.RowKit
/-- a kind of rows: the slice's type, its elements' type, how many cells each has, and which -/
structure RowK (α : Type) where
  (s e : TypeId)
  K : Nat
  en : α → List Value
/-- the program knows this kind -/
structure RowK.Ok {α : Type} (P : Program) (r : RowK α) : Prop where
  hs : P.underlying r.s = some (.slice r.e)
  info : ∃ i z b, P.info? r.e = some i ∧ i.zero = some z ∧ i.size = r.K ∧ i.bytes = b ∧ z.cells.size = r.K ∧ b ≤ 1000
  size : ∀ w, (sizeOf r.e).run P w = .ok r.K w
  pos : 0 < r.K
  len : ∀ a, (r.en a).length = r.K
  one : ∀ a, ∀ u ∈ r.en a, u.oneCell' = true
theorem info_partsK {P : Program} {t : TypeId} {z : Value} {n b : Nat} (h : (P.info? t).map (fun i => (i.zero, i.size, i.bytes)) = some (some z, n, b)) (h2 : z.cells.size = n) (h3 : b ≤ 1000) : ∃ i z b, P.info? t = some i ∧ i.zero = some z ∧ i.size = n ∧ i.bytes = b ∧ z.cells.size = n ∧ b ≤ 1000 := by
  cases hi : P.info? t with
  | none => rw [hi] at h; cases h
  | some i =>
    rw [hi] at h
    have := Option.some.inj h
    exact ⟨i, z, b, rfl, congrArg (·.1) this, congrArg (·.2.1) this, congrArg (·.2.2) this, h2, h3⟩
/-- the cells of elements, one behind the other -/
def RowK.cells {α : Type} (r : RowK α) (l : List α) : List Value := l.flatMap r.en
/-- elements in a row of the walk's own, no block below B -/
def RowK.Own {α : Type} (r : RowK α) (B : Nat) (w : World) (v : Value) (l : List α) : Prop := w.ownsRow B r.e r.K v l.length (r.cells l)
/-- elements that lie somewhere, one behind the other -/
def RowK.At {α : Type} (r : RowK α) (w : World) (p : Option Addr) (l : List α) : Prop := ∀ k x, l[k]? = some x → ∃ a : Addr, p = some a ∧ a.block < w.heap.size ∧ ∀ j u, (r.en x)[j]? = some u → w.cell? (a.add (k * r.K + j)) = some u
theorem addK_blk {a : Addr} {j : Nat} : (a.add j).block = a.block := by unfold Addr.add; split <;> rfl
theorem addK_add {a : Addr} {i j : Nat} : (a.add i).add j = a.add (i + j) := by
  obtain ⟨b, o, s⟩ := a
  unfold Addr.add
  by_cases hi : i = 0
  · subst hi
    rw [if_pos rfl, Nat.zero_add]
  · by_cases hj : j = 0
    · subst hj
      rw [if_pos rfl, Nat.add_zero]
    · rw [if_neg hj, if_neg hi, if_neg (by omega)]
      simp only [Addr.mk.injEq, and_true, true_and]
      omega
section
variable {α : Type} {P : Program} {r : RowK α} {B B' : Nat} {w w' : World} {v : Value} {l : List α}
theorem RowK.Ok.cells_len (h : r.Ok P) : ∀ l : List α, (r.cells l).length = l.length * r.K
  | [] => by simp [RowK.cells]
  | t :: l => by
    show (r.en t ++ r.cells l).length = _
    rw [List.length_append, h.cells_len l, h.len, List.length_cons, Nat.succ_mul]; omega
theorem RowK.cells_app (r : RowK α) (a b : List α) : r.cells (a ++ b) = r.cells a ++ r.cells b := by unfold RowK.cells; rw [List.flatMap_append]
theorem RowK.cells_one (r : RowK α) (t : α) : r.cells [t] = r.en t := by simp [RowK.cells]
theorem RowK.Ok.cells_at (h : r.Ok P) : ∀ (l : List α) (k j : Nat) (t : α), l[k]? = some t → j < r.K → (r.cells l)[k * r.K + j]? = (r.en t)[j]?
  | [], _, _, _, e, _ => by cases e
  | u :: l, 0, j, t, e, hj => by
    obtain rfl : u = t := by simpa using e
    show (r.en u ++ r.cells l)[_]? = _
    rw [List.getElem?_append_left (by rw [h.len]; omega)]
    simp
  | u :: l, k + 1, j, t, e, hj => by
    show (r.en u ++ r.cells l)[_]? = _
    have e1 : (k + 1) * r.K = k * r.K + r.K := Nat.succ_mul _ _
    rw [List.getElem?_append_right (by rw [h.len]; omega), h.len, show (k + 1) * r.K + j - r.K = k * r.K + j by omega]
    exact h.cells_at l k j t (by simpa using e) hj
theorem RowK.Ok.cells_one_cell (h : r.Ok P) (l : List α) : ∀ u ∈ r.cells l, u.oneCell' = true := by
  intro u hu
  obtain ⟨t, _, ht⟩ := List.mem_flatMap.1 hu
  exact h.one t u ht
theorem RowK.Own.nil (r : RowK α) (B : Nat) (w : World) : r.Own B w (.slice none 0 0) [] := World.ownsRow_nil _ _ _ _
theorem RowK.Own.keeps {S : Nat → Prop} (h : r.Own B w v l) (hk : Keeps S w w') (hs : ∀ g, v.ownBlock = some g → ¬ S g) : r.Own B w' v l := own_keeps h hk hs
theorem RowK.Own.later (h : r.Own B w v l) (hb : Below w.heap.size w w') : r.Own B w' v l := h.keeps (S := fun _ => False) (.of_below hb) (fun _ _ => id)
theorem RowK.Own.lt (h : r.Own B w v l) : ∀ g, v.ownBlock = some g → B ≤ g ∧ g < w.heap.size := fun g hg => World.ownsRow.lt h g hg
theorem RowK.Own.slice (h : r.Own B w v l) : ∃ p c, v = .slice p l.length c := own_slice h
theorem RowK.Own.mono (h : r.Own B w v l) (hb : B' ≤ B) : r.Own B' w v l := by
  obtain ⟨h1, h2 | ⟨g, cap, cur, h2, h3, hr⟩⟩ := h
  · exact ⟨h1, .inl h2⟩
  · exact ⟨h1, .inr ⟨g, cap, cur, h2, Nat.le_trans hb h3, hr⟩⟩
theorem RowK.Own.cells (h : r.Own B w v l) (hn : 0 < l.length) : ∃ g c, v = .slice (some ⟨g, 0, none⟩) l.length c ∧ l.length ≤ c ∧ B ≤ g ∧ g < w.heap.size ∧ ∀ (i : Nat) (u : Value), (r.cells l)[i]? = some u → w.cell? ⟨g, i, none⟩ = some u := by
  obtain ⟨g, c, e, hc, hg, hcell⟩ := (RowAt.of_own h).cell hn
  exact ⟨g, c, e, hc, (h.lt g (by rw [e]; rfl)).1, hg, hcell⟩
theorem RowK.Own.blk_ne {g : Nat} {T : TypeId} {cs : Array Value} (h : r.Own B w v l) (hg : Blk w g T cs) (hne : r.e ≠ T) : v.ownBlock ≠ some g := own_blk_ne h hg hne
theorem RowK.Own.at_ (ok : r.Ok P) {p : Option Addr} {n c : Nat} (h : r.Own B w (.slice p n c) l) : r.At w p l := by
  intro k x hx
  have hlt := (List.getElem?_eq_some_iff.1 hx).1
  obtain ⟨g, c', hv, _, _, hg, hcell⟩ := h.cells (by omega)
  obtain rfl : p = some ⟨g, 0, none⟩ := by injection hv
  refine ⟨_, rfl, hg, fun j u hu => ?_⟩
  have hj := (List.getElem?_eq_some_iff.1 hu).1
  rw [ok.len] at hj
  rw [addr_at]
  exact hcell _ u ((ok.cells_at l k j x hx hj).trans hu)
theorem RowK.At.below {p : Option Addr} (h : r.At w p l) (hb : Below w.heap.size w w') : r.At w' p l := by
  intro k x hx
  obtain ⟨a, hp, hl, hc⟩ := h k x hx
  exact ⟨a, hp, Nat.lt_of_lt_of_le hl hb.size, fun j u hu => (hb.cell (by rw [addK_blk]; exact hl)).trans (hc j u hu)⟩
/-- the cells of a block of one element are this element's -/
def BlkIs (w : World) (g : Nat) (xs : List Value) : Prop := ∀ j u, xs[j]? = some u → w.cell? ⟨g, j, none⟩ = some u
theorem RowK.Own.app (ok : r.Ok P) {t : α} {g : Nat} (h : r.Own B w v l) (hB : B ≤ w.heap.size) (hg : BlkIs w g (r.en t)) (hn : l.length ≤ 1000000) :
    ∃ p c w', (dappOp #[r.s, r.s] r.s #[v, .slice (some ⟨g, 0, none⟩) 1 1]).run P w = .ok (.slice p (l.length + 1) c) w' ∧ r.Own B w' (.slice p (l.length + 1) c) (l ++ [t]) ∧ Keeps (fun j => v.ownBlock = some j) w w' ∧ ((Value.slice p (l.length + 1) c).ownBlock = v.ownBlock ∨ (Value.slice p (l.length + 1) c).ownBlock = some w.heap.size) := by
  obtain ⟨i0, z, b, hi, hz0, hz1, hz2, hz3, hb⟩ := ok.info
  obtain ⟨v', w', h2, h3, h4, _, h5⟩ := run_append_own_at (P := P) w B r.s r.s r.e i0 z r.K b ok.hs hi hz0 hz1 hz2 hz3 ok.pos v l.length _ h ⟨g, 0, none⟩ 1 1 (r.cells [t]) (ok.cells_len [t]) (by
    intro j u hj
    rw [addr_at]
    rw [RowK.cells_one] at hj
    exact hg j u hj) (ok.cells_one_cell _) (by unfold maxLen; omega) (Nat.le_trans (Nat.mul_le_mul (show l.length + 1 ≤ 1000001 by omega) hb) (by decide)) hB
  obtain ⟨p, c, rfl⟩ := own_slice h3
  refine ⟨p, c, w', h2, ?_, (Keeps.refl _ w).grown h4 fun k e => .inl e, h5⟩
  rw [← RowK.cells_app] at h3
  unfold RowK.Own
  rw [List.length_append]
  exact h3
/-- what can be appended, from Wd on: m elements -/
def RowK.Can (r : RowK α) (P : Program) (Wd : World) (x : Value) (m : Nat) (news : List α) : Prop := ∀ W, Below Wd.heap.size Wd W → ∀ (Bz : Nat) v l, Bz ≤ Wd.heap.size → l.length ≤ 400000 → r.Own Bz W v l → ∃ p c w', (dappOp #[r.s, r.s] r.s #[v, x]).run P W = .ok (.slice p (l.length + m) c) w' ∧ r.Own Bz w' (.slice p (l.length + m) c) (l ++ news) ∧ Keeps (fun j => v.ownBlock = some j) W w' ∧ ((Value.slice p (l.length + m) c).ownBlock = v.ownBlock ∨ (Value.slice p (l.length + m) c).ownBlock = some W.heap.size)
theorem RowK.can_nil (ok : r.Ok P) {Wd : World} : r.Can P Wd (.slice none 0 0) 0 [] := by
  intro W _ Bz v l hB hl ho
  obtain ⟨i0, z, b, hi, hz0, hz1, hz2, hz3, hb⟩ := ok.info
  obtain ⟨p, c, rfl⟩ := ho.slice
  refine ⟨p, c, W, ?_, by rw [List.append_nil]; exact ho, Keeps.refl _ _, .inl rfl⟩
  exact run_append_owned_none W Bz _ _ _ i0 r.K ok.hs hi _ l.length _ ho
theorem RowK.can_row (ok : r.Ok P) {Wd : World} {a : Addr} {m c : Nat} {news : List α} (hm : news.length = m) (hm2 : m ≤ 400000) (ha : m = 0 ∨ a.block < Wd.heap.size) (hc : ∀ j u, (r.cells news)[j]? = some u → Wd.cell? (a.add j) = some u) : r.Can P Wd (.slice (some a) m c) m news := by
  intro W hW Bz v l hB hl ho
  obtain ⟨i0, z, b, hi, hz0, hz1, hz2, hz3, hb⟩ := ok.info
  obtain ⟨v', w', h2, h3, h4, _, h5⟩ := run_append_own_at (P := P) W Bz r.s r.s r.e i0 z r.K b ok.hs hi hz0 hz1 hz2 hz3 ok.pos v l.length _ ho a m c (r.cells news) (by rw [ok.cells_len, hm]) (by
    intro j u hj
    rcases ha with ha | ha
    · have : news = [] := List.eq_nil_of_length_eq_zero (by omega)
      rw [this] at hj; simp [RowK.cells] at hj
    · rw [← hc j u hj]
      exact hW.cell (by rw [addK_blk]; exact ha)) (ok.cells_one_cell _) (by unfold maxLen; omega) (Nat.le_trans (Nat.mul_le_mul (show l.length + m ≤ 800000 by omega) hb) (by decide)) (Nat.le_trans hB hW.size)
  obtain ⟨p, c', rfl⟩ := own_slice h3
  refine ⟨p, c', w', h2, ?_, (Keeps.refl _ W).grown h4 fun k e => .inl e, h5⟩
  rw [← RowK.cells_app] at h3
  unfold RowK.Own
  rw [List.length_append, hm]
  exact h3
theorem RowK.can_at (ok : r.Ok P) {Wd : World} {p : Option Addr} {m c : Nat} {news : List α} (h : r.At Wd p news) (hm : news.length = m) (hm2 : m ≤ 400000) (hp : p = none → c = 0) : r.Can P Wd (.slice p m c) m news := by
  cases p with
  | none =>
    obtain rfl : news = [] := by
      cases news with
      | nil => rfl
      | cons t l => obtain ⟨_, e, _⟩ := h 0 t rfl; cases e
    obtain rfl : m = 0 := by simpa using hm.symm
    rw [hp rfl]
    exact RowK.can_nil ok
  | some a =>
    by_cases h0 : news.length = 0
    · exact RowK.can_row ok hm hm2 (.inl (by omega)) (fun j u hj => by
        obtain rfl : news = [] := List.eq_nil_of_length_eq_zero h0
        simp [RowK.cells] at hj)
    · obtain ⟨a', e, hl, _⟩ := h 0 _ (List.getElem?_eq_getElem (show 0 < news.length by omega))
      obtain rfl := Option.some.inj e
      refine RowK.can_row ok hm hm2 (.inr hl) (fun j u hj => ?_)
      have hjl := (List.getElem?_eq_some_iff.1 hj).1
      rw [ok.cells_len] at hjl
      have hk : j / r.K < news.length := Nat.div_lt_of_lt_mul (by rw [Nat.mul_comm]; exact hjl)
      have hx := List.getElem?_eq_getElem hk
      obtain ⟨a', e, _, hc⟩ := h _ _ hx
      obtain rfl := Option.some.inj e
      have hd : j / r.K * r.K + j % r.K = j := by rw [Nat.mul_comm]; exact Nat.div_add_mod j r.K
      have e1 := ok.cells_at news (j / r.K) (j % r.K) _ hx (Nat.mod_lt _ ok.pos)
      rw [hd, hj] at e1
      have := hc _ u e1.symm
      rwa [hd] at this
theorem addK_zero (a : Addr) : a.add 0 = a := by unfold Addr.add; rw [if_pos rfl]
/-- a slice of a slice, kept shut -/
def dslK (t : TypeId) (x : Value) (lo hi mx : Option Value) : Sem Value := Instr.sliceAt t x lo hi mx
theorem dslK_op (t : TypeId) (x : Value) (lo hi mx : Option Value) : Instr.sliceAt t x lo hi mx = dslK t x lo hi mx := rfl
theorem RowK.Ok.low_run (ok : r.Ok P) (p : Option Addr) (n c i : Nat) (hi : i ≤ c) (W : World) : (dslK r.s (.slice p n c) none (some (.int .i64 i)) none).run P W = .ok (.slice p i c) W := by
  have h1 : (0 : Int) ≤ (i : Int) := by omega
  unfold dslK
  simp [Instr.sliceAt, Instr.slice, Instr.sliceBounds, Instr.sliceBound, run_underlying ok.hs, ok.size, go_sem, h1, hi]
theorem RowK.Ok.high_run (ok : r.Ok P) (p : Option Addr) (n c i : Nat) (hi : i ≤ n) (W : World) : (dslK r.s (.slice p n c) (some (.int .i64 i)) none none).run P W = .ok (.slice (if c = i then p else p.map (·.add (i * r.K))) (n - i) (c - i)) W := by
  have h1 : (0 : Int) ≤ (i : Int) := by omega
  unfold dslK
  simp [Instr.sliceAt, Instr.slice, Instr.sliceBounds, Instr.sliceBound, run_underlying ok.hs, ok.size, go_sem, h1, hi]
theorem RowK.Own.at_take (ok : r.Ok P) {p : Option Addr} {n c i : Nat} (h : r.Own B w (.slice p n c) l) : r.At w p (l.take i) := by
  intro k x hx
  rw [List.getElem?_take] at hx
  split at hx
  · exact h.at_ ok k x hx
  · cases hx
theorem RowK.Own.none_cap {n c : Nat} (h : r.Own B w (.slice none n c) l) : n = 0 ∧ c = 0 := by
  obtain ⟨_, ⟨e, _⟩ | ⟨g, cap, cur, e, _⟩⟩ := h
  · injection e with _ e1 e2; exact ⟨e1, e2⟩
  · cases e
theorem RowK.can_low (ok : r.Ok P) {p : Option Addr} {c i : Nat} (h : r.Own B w (.slice p l.length c) l) (hi : i ≤ l.length) (hl : l.length ≤ 400000) : r.Can P w (.slice p i c) i (l.take i) :=
  RowK.can_at ok (h.at_take ok) (by rw [List.length_take]; omega) (by omega) (fun e => by subst e; exact h.none_cap.2)
theorem RowK.can_high (ok : r.Ok P) {p : Option Addr} {c i : Nat} (h : r.Own B w (.slice p l.length c) l) (hi : i ≤ l.length) (hl : l.length ≤ 400000) : r.Can P w (.slice (if c = i then p else p.map (·.add (i * r.K))) (l.length - i) (c - i)) (l.length - i) (l.drop i) := by
  refine RowK.can_at ok ?_ List.length_drop (by omega) (fun e => ?_)
  · intro k x hx
    rw [List.getElem?_drop] at hx
    have hlt := (List.getElem?_eq_some_iff.1 hx).1
    obtain ⟨g, c', hv, hnc, _, hg, hcell⟩ := h.cells (by omega)
    obtain ⟨rfl, rfl⟩ : p = some ⟨g, 0, none⟩ ∧ c = c' := by injection hv with h1 _ h3; exact ⟨h1, h3⟩
    obtain ⟨a, e, _, hc⟩ := h.at_ ok _ _ hx
    obtain rfl := Option.some.inj e
    rw [if_neg (by omega)]
    refine ⟨_, rfl, by rw [addK_blk]; exact hg, fun j u hu => ?_⟩
    have := hc j u hu
    rw [Nat.add_mul, Nat.add_assoc] at this
    rw [addK_add]
    exact this
  · have h2 : p = none := by
      split at e
      · exact e
      · cases p with
        | none => rfl
        | some a => cases e
    subst h2
    rw [h.none_cap.2]
    exact Nat.zero_sub _
/-- what is left of three appends -/
structure ThreeK (r : RowK α) (P : Program) (Wd W1 W2 : World) (v0 x1 x3 : Value) (o i m : Nat) (n1 n3 : List α) (t : α) (p1 : Option Addr) (c1 : Nat) (w1 : World) (p2 : Option Addr) (c2 : Nat) (w2 : World) (p3 : Option Addr) (c3 : Nat) (w3 : World) : Prop where
  r1 : (dappOp #[r.s, r.s] r.s #[v0, x1]).run P W1 = .ok (.slice p1 i c1) w1
  r2 : (dappOp #[r.s, r.s] r.s #[.slice p1 i c1, .slice (some ⟨o, 0, none⟩) 1 1]).run P W2 = .ok (.slice p2 (i + 1) c2) w2
  r3 : (dappOp #[r.s, r.s] r.s #[.slice p2 (i + 1) c2, x3]).run P w2 = .ok (.slice p3 (i + 1 + m) c3) w3
  b1 : Below Wd.heap.size Wd w1
  b2 : Below Wd.heap.size Wd w2
  b3 : Below Wd.heap.size Wd w3
  own : r.Own Wd.heap.size w3 (.slice p3 (i + 1 + m) c3) (n1 ++ t :: n3)
theorem RowK.Can.go {Wd : World} {x : Value} {m : Nat} {news : List α} (h : r.Can P Wd x m news) {W : World} (hW : Below Wd.heap.size Wd W) {v : Value} {l : List α} (hl : l.length ≤ 400000) (ho : r.Own Wd.heap.size W v l) : ∃ p c w', (dappOp #[r.s, r.s] r.s #[v, x]).run P W = .ok (.slice p (l.length + m) c) w' ∧ r.Own Wd.heap.size w' (.slice p (l.length + m) c) (l ++ news) ∧ Keeps (fun j => v.ownBlock = some j) W w' ∧ Below Wd.heap.size Wd w' := by
  obtain ⟨p, c, w', h1, h2, h3, _⟩ := h W hW _ v l (Nat.le_refl _) hl ho
  exact ⟨p, c, w', h1, h2, h3, Keeps.below_step hW hW.size h3 fun j e => (ho.lt j e).1⟩
theorem threeK_one (ok : r.Ok P) {Wd W1 : World} {v0 x1 x3 : Value} {o i m : Nat} {n1 n3 : List α} {t : α} {cs : Array Value} (hi : n1.length = i) (hi2 : i ≤ 150000) (h0 : Below Wd.heap.size Wd W1) (ho : r.Own Wd.heap.size W1 v0 []) (c1 : r.Can P Wd x1 i n1) (c3 : r.Can P Wd x3 m n3)
    (hb : Blk W1 o r.e cs) (hcs : cs.toList = r.en t) (hne : v0.ownBlock ≠ some o) : ∃ p1 k1 w1 p2 k2 w2 p3 k3 w3, ThreeK r P Wd W1 w1 v0 x1 x3 o i m n1 n3 t p1 k1 w1 p2 k2 w2 p3 k3 w3 := by
  obtain ⟨p1, k1, w1, r1, o1, q1, b1⟩ := c1.go h0 (by simp) ho
  rw [show ([] : List α).length + i = i by simp] at r1 o1
  rw [List.nil_append] at o1
  have hb1 := hb.keeps q1 hne
  obtain ⟨p2, k2, w2, r2, o2, q2, _⟩ := o1.app ok (t := t) b1.size (g := o) (fun j u hj => by rw [hb1.cell]; rw [← hcs] at hj; simpa using hj) (by omega)
  rw [hi] at r2 o2
  have b2 := Keeps.below_step b1 b1.size q2 fun j e => (o1.lt j e).1
  obtain ⟨p3, k3, w3, r3, o3, q3, b3⟩ := c3.go b2 (by simp; omega) o2
  rw [show (n1 ++ [t]).length + m = i + 1 + m by simp [hi]] at r3 o3
  rw [List.append_assoc] at o3
  exact ⟨p1, k1, w1, p2, k2, w2, p3, k3, w3, r1, r2, r3, b1, b2, b3, o3⟩
theorem threeK_late (ok : r.Ok P) {Wd W1 : World} {v0 x1 x3 : Value} {i m : Nat} {n1 n3 : List α} {t : α} {cs : Array Value} (hcs : cs.toList = r.en t) (hi : n1.length = i) (hi2 : i ≤ 150000) (h0 : Below Wd.heap.size Wd W1) (ho : r.Own Wd.heap.size W1 v0 []) (c1 : r.Can P Wd x1 i n1) (c3 : r.Can P Wd x3 m n3) :
    ∃ p1 k1 w1 p2 k2 w2 p3 k3 w3, ThreeK r P Wd W1 (w1.alloc (.cells cs r.e)) v0 x1 x3 w1.heap.size i m n1 n3 t p1 k1 w1 p2 k2 w2 p3 k3 w3 := by
  obtain ⟨p1, k1, w1, r1, o1, q1, b1⟩ := c1.go h0 (by simp) ho
  rw [show ([] : List α).length + i = i by simp] at r1 o1
  rw [List.nil_append] at o1
  have bA := b1.alloc b1.size (.cells cs r.e)
  have oA := o1.later ((Below.refl w1.heap.size w1).alloc (Nat.le_refl _) (.cells cs r.e))
  obtain ⟨p2, k2, w2, r2, o2, q2, _⟩ := oA.app ok (t := t) bA.size (g := w1.heap.size) (fun j u hj => by rw [(Blk.new w1 r.e cs).cell]; rw [← hcs] at hj; simpa using hj) (by omega)
  rw [hi] at r2 o2
  have b2 := Keeps.below_step bA bA.size q2 fun j e => (oA.lt j e).1
  obtain ⟨p3, k3, w3, r3, o3, q3, b3⟩ := c3.go b2 (by simp; omega) o2
  rw [show (n1 ++ [t]).length + m = i + 1 + m by simp [hi]] at r3 o3
  rw [List.append_assoc] at o3
  exact ⟨p1, k1, w1, p2, k2, w2, p3, k3, w3, r1, r2, r3, b1, b2, b3, o3⟩
end
end Go.Proofs.YtabcdodjkfknlaaGreatDoor
namespace Go.Proofs.YtabcdodjkfknlaaGreatDoor
open Go.RowKit
/-- bytes in a row of the call's own, no block below B -/
def BOwn (B : Nat) (w : World) (v : Value) (l : List UInt8) : Prop := w.ownsRow B 5 1 v l.length (bcells l)
section
variable {B B' : Nat} {w w' : World} {v : Value} {l : List UInt8} {S : Nat → Prop}
theorem BOwn.nil (B : Nat) (w : World) : BOwn B w (.slice none 0 0) [] := World.ownsRow_nil _ _ _ _
theorem BOwn.bytes (h : BOwn B w v l) : Bytes w v l := Bytes.of_own h
theorem BOwn.keeps (h : BOwn B w v l) (hk : Keeps S w w') (hs : ∀ g, v.ownBlock = some g → ¬ S g) : BOwn B w' v l := own_keeps h hk hs
theorem BOwn.later (h : BOwn B w v l) (hb : Below w.heap.size w w') : BOwn B w' v l := h.keeps (S := fun _ => False) (.of_below hb) (fun _ _ => id)
theorem BOwn.lt (h : BOwn B w v l) : ∀ g, v.ownBlock = some g → B ≤ g ∧ g < w.heap.size := fun g hg => World.ownsRow.lt h g hg
theorem BOwn.slice (h : BOwn B w v l) : ∃ p c, v = .slice p l.length c := own_slice h
theorem BOwn.mono (h : BOwn B w v l) (hb : B' ≤ B) : BOwn B' w v l := by
  obtain ⟨h1, h2 | ⟨g, cap, cur, h2, h3, hr⟩⟩ := h
  · exact ⟨h1, .inl h2⟩
  · exact ⟨h1, .inr ⟨g, cap, cur, h2, Nat.le_trans hb h3, hr⟩⟩
/-- bytes behind bytes of one's own -/
theorem BOwn.put {b : Value} {l' : List UInt8} (h : BOwn B w v l) (hb : Bytes w b l') (hn : l.length + l'.length ≤ 100000000000) (hB : B ≤ w.heap.size) :
    ∃ p c w', (dappOp #[43, 43] 43 #[v, b]).run Tryz.prog w = .ok (.slice p (l.length + l'.length) c) w' ∧ BOwn B w' (.slice p (l.length + l'.length) c) (l ++ l') ∧ Keeps (fun j => v.ownBlock = some j) w w' := by
  obtain ⟨v', w', h1, h2, h3, _⟩ := bytes_append h hb hn hB
  obtain ⟨p, c, rfl⟩ := own_slice h2
  rw [List.length_append] at h1 h2
  refine ⟨p, c, w', h1, ?_, (Keeps.refl _ w).grown h3 fun k e => .inl e⟩
  unfold BOwn
  rw [List.length_append]
  exact h2
theorem strB (s : ByteArray) : Lib.strCells s = bcells s.data.toList := rfl
/-- a text's bytes behind bytes of one's own -/
theorem BOwn.putS {s : ByteArray} (h : BOwn B w v l) (hn : l.length + s.size ≤ 100000000000) (hB : B ≤ w.heap.size) :
    ∃ p c w', (dappOp #[43, 9] 43 #[v, .string s]).run Tryz.prog w = .ok (.slice p (l ++ s.data.toList).length c) w' ∧ BOwn B w' (.slice p (l ++ s.data.toList).length c) (l ++ s.data.toList) ∧ Keeps (fun j => v.ownBlock = some j) w w' := by
  obtain ⟨i0, hi, hz0, hz1, hz2⟩ := info_parts info_u8
  obtain ⟨v', w', h2, h3, h4, _⟩ := Lib.run_append_own_string (P := Tryz.prog) w B 43 9 43 5 i0 Tryz.underlying43 Tryz.underlying9 hi hz0 hz1 hz2 v l.length _ h s (by unfold maxLen; omega) (by omega) hB
  obtain ⟨p, c, rfl⟩ := own_slice h3
  have e : l.length + s.size = (l ++ s.data.toList).length := by rw [List.length_append, Lib.size_eq]
  rw [strB, ← bcells_append] at h3
  rw [e] at h2 h3
  exact ⟨p, c, w', h2, h3, (Keeps.refl _ w).grown h4 fun k e => .inl e⟩
/-- bytes behind bytes that have no room -/
theorem Bytes.put {p : Option Addr} {a : Addr} {m c : Nat} {l' : List UInt8} (h : Bytes w (.slice p l.length l.length) l) (hb : Bytes w (.slice (some a) m c) l') (hm : 0 < m) (hn : l.length + l'.length ≤ 10000000000) :
    ∃ p' c' w', (dappOp #[43, 43] 43 #[.slice p l.length l.length, .slice (some a) m c]).run Tryz.prog w = .ok (.slice p' (l.length + l'.length) c') w' ∧ BOwn w.heap.size w' (.slice p' (l.length + l'.length) c') (l ++ l') ∧ Below w.heap.size w w' := by
  obtain ⟨i0, hi, hz0, hz1, hz2⟩ := info_parts info_u8
  obtain ⟨p2, c2, e2⟩ := hb.slice
  obtain ⟨rfl, rfl, rfl⟩ : some a = p2 ∧ m = l'.length ∧ c = c2 := by injection e2 with x y z; exact ⟨x, y, z⟩
  have hnews : ∀ j u, (bcells l')[j]? = some u → w.cell? (a.add j) = some u := by
    intro j u hj
    rw [bcells_get] at hj
    rcases hb with (⟨e, _⟩ | ⟨g, o, c3, e, _, hc⟩) | ⟨a', c3, e, e'⟩
    · cases e
    · obtain rfl : a = ⟨g, o, none⟩ := Option.some.inj (Value.slice.inj e).1
      cases hx : l'[j]? with
      | none => rw [hx] at hj; cases hj
      | some x =>
        rw [hx] at hj
        obtain rfl := Option.some.inj hj
        rw [Addr.add_lit]
        exact hc j x hx
    · rw [e'] at hj; simp at hj
  have own : ∀ (old : Nat), old < l.length + l'.length → (w.drew.alloc (.cells ((bcells l).toArray ++ (bcells l').toArray ++ Builtin.zeroCells (Value.int .u8 0).cells (grownCap w (l.length + l'.length) old 5 - (l.length + l'.length))) 5)).ownsRow w.heap.size 5 1
        (.slice (some ⟨w.heap.size, 0, none⟩) (l.length + l'.length) (grownCap w (l.length + l'.length) old 5)) (l ++ l').length (bcells (l ++ l')) := by
    intro old ho
    have hge := grownCap_ge w (l.length + l'.length) old 5
    have hcm : grownCap w (l.length + l'.length) old 5 ≤ maxLen := grownCap_le_maxLen w (l.length + l'.length) old 5 (by unfold maxLen; omega)
    rw [List.length_append]
    refine ⟨by rw [bcells_length, List.length_append, Nat.mul_one], .inr ⟨w.heap.size, _, _, rfl, Nat.le_refl _, heap_alloc_new w.drew _, hge, hcm, ?_, ?_⟩⟩
    · have hz1 : (Value.int IntKind.u8 0).cells.size = 1 := rfl
      simp only [Array.size_append, List.size_toArray, size_zeroCells, hz1, bcells_length]
      omega
    · rw [bcells_append]
      simp only [Array.toList_append, List.append_assoc]
      rw [← List.append_assoc, show (l.length + l'.length) * 1 = (bcells l ++ bcells l').length by rw [List.length_append, bcells_length, bcells_length, Nat.mul_one]]
      exact List.take_left
  have hB : ∀ o : Obj, Below w.heap.size w (w.drew.alloc o) := fun o => (Below.refl _ w).drew.alloc (Nat.le_refl _) o
  cases p with
  | none =>
    have hl : l = [] := by
      rcases h with (⟨_, e⟩ | ⟨g, o, c3, e, _, _⟩) | ⟨a', c3, e, _⟩
      · exact e
      · cases e
      · cases e
    subst hl
    have hr := run_append_nil (P := Tryz.prog) w 43 43 5 i0 (.int .u8 0) Tryz.underlying43 hi hz0 a l'.length c (bcells l') (by rw [bcells_length, hz1, Nat.mul_one]) hnews hm (by simp at hn; omega) (by rw [hz2]; simp at hn; omega)
    have ho := own 0 (by omega)
    simp only [List.length_nil, Nat.zero_add, List.nil_append, show bcells [] = [] from rfl, Array.empty_append] at ho hr ⊢
    exact ⟨_, _, _, hr, ho, hB _⟩
  | some b =>
    have holds : ∀ j u, (bcells l)[j]? = some u → w.cell? (b.add j) = some u := by
      intro j u hj
      rw [bcells_get] at hj
      rcases h with (⟨e, _⟩ | ⟨g, o, c3, e, _, hc⟩) | ⟨a', c3, e, e'⟩
      · cases e
      · obtain rfl : b = ⟨g, o, none⟩ := Option.some.inj (Value.slice.inj e).1
        cases hx : l[j]? with
        | none => rw [hx] at hj; cases hj
        | some x =>
          rw [hx] at hj
          obtain rfl := Option.some.inj hj
          rw [Addr.add_lit]
          exact hc j x hx
      · rw [e'] at hj; simp at hj
    have hr := run_append_grow (P := Tryz.prog) w 43 43 5 i0 (.int .u8 0) Tryz.underlying43 hi hz0 b l.length l.length (bcells l) (by rw [bcells_length, hz1, Nat.mul_one]) holds a l'.length c (bcells l') (by rw [bcells_length, hz1, Nat.mul_one]) hnews (by omega) (by omega) (by rw [hz2]; exact growslice_fits (by omega) (by omega))
    exact ⟨_, _, _, hr, own l.length (by omega), hB _⟩
end
/-- a slice's beginning, with no room behind it -/
theorem bsl_full (p : Option Addr) (n c : Nat) (h : n ≤ c) (w : World) : (dslK 43 (.slice p n c) none (some (.int .i64 n)) (some (.int .i64 n))).run Tryz.prog w = .ok (.slice p n n) w := by
  have h1 : (0 : Int) ≤ (n : Int) := by omega
  unfold dslK
  simp [Instr.sliceAt, Instr.slice, Instr.sliceBounds, Instr.sliceBound, run_underlying Tryz.underlying43, Tryz.sizeOf5, go_sem, h1, h]
theorem bsl_from (p : Option Addr) (n c i : Nat) (hi : i ≤ n) (w : World) : (dslK 43 (.slice p n c) (some (.int .i64 i)) none none).run Tryz.prog w = .ok (.slice (if c = i then p else p.map (·.add i)) (n - i) (c - i)) w := by
  have h1 : (0 : Int) ≤ (i : Int) := by omega
  unfold dslK
  simp [Instr.sliceAt, Instr.slice, Instr.sliceBounds, Instr.sliceBound, run_underlying Tryz.underlying43, Tryz.sizeOf5, go_sem, h1, hi]
theorem bsl_mid (p : Option Addr) (n c i j : Nat) (hi : i ≤ j) (hj : j ≤ c) (w : World) : (dslK 43 (.slice p n c) (some (.int .i64 i)) (some (.int .i64 j)) none).run Tryz.prog w = .ok (.slice (if c = i then p else p.map (·.add i)) (j - i) (c - i)) w := by
  have h1 : (0 : Int) ≤ (i : Int) := by omega
  have h2 : (0 : Int) ≤ (j : Int) := by omega
  unfold dslK
  simp [Instr.sliceAt, Instr.slice, Instr.sliceBounds, Instr.sliceBound, run_underlying Tryz.underlying43, Tryz.sizeOf5, go_sem, h1, h2, hi, hj]
section
variable {w : World} {p : Option Addr} {n c : Nat} {l : List UInt8}
theorem Bytes.len (h : Bytes w (.slice p n c) l) : n = l.length ∧ n ≤ c := by
  rcases h with (⟨e, rfl⟩ | ⟨g, o, c3, e, hc, _⟩) | ⟨a', c3, e, rfl⟩
  · injection e with _ e1 e2; exact ⟨e1, by omega⟩
  · injection e with _ e1 e2; exact ⟨e1, by omega⟩
  · injection e with _ e1 e2; exact ⟨e1, by omega⟩
theorem Bytes.drop (h : Bytes w (.slice p n c) l) {i : Nat} (hi : i ≤ n) : Bytes w (.slice (if c = i then p else p.map (·.add i)) (n - i) (c - i)) (l.drop i) := by
  rcases h with (⟨e, rfl⟩ | ⟨g, o, c3, e, hc, hcell⟩) | ⟨a', c3, e, rfl⟩
  · injection e with e0 e1 e2
    subst e0 e1 e2
    obtain rfl : i = 0 := by omega
    exact .inl (.inl ⟨rfl, rfl⟩)
  · injection e with e0 e1 e2
    subst e0 e1 e2
    by_cases hci : c = i
    · have : i = l.length := by omega
      rw [if_pos hci]
      refine .inr ⟨⟨g, o, none⟩, c - i, ?_, ?_⟩
      · rw [show l.length - i = 0 by omega]
      · exact List.drop_of_length_le (by omega)
    · rw [if_neg hci]
      refine .inl (.inr ⟨g, o + i, c - i, ?_, ?_, ?_⟩)
      · rw [List.length_drop, Option.map_some, Addr.add_lit]
      · rw [List.length_drop]; omega
      · intro k x hx
        rw [List.getElem?_drop] at hx
        rw [Nat.add_assoc]
        exact hcell _ x hx
  · injection e with e0 e1 e2
    subst e0 e1 e2
    obtain rfl : i = 0 := by omega
    refine .inr ⟨a', c, ?_, rfl⟩
    split
    · rename_i h0; subst h0; rfl
    · rw [Option.map_some, addK_zero]; rfl
theorem Bytes.take (h : Bytes w (.slice p n c) l) {j : Nat} (hj : j ≤ n) : Bytes w (.slice p j c) (l.take j) := by
  rcases h with (⟨e, rfl⟩ | ⟨g, o, c3, e, hc, hcell⟩) | ⟨a', c3, e, rfl⟩
  · injection e with e0 e1 e2
    subst e0 e1 e2
    obtain rfl : j = 0 := by omega
    exact .inl (.inl ⟨rfl, rfl⟩)
  · injection e with e0 e1 e2
    subst e0 e1 e2
    refine .inl (.inr ⟨g, o, c, ?_, ?_, ?_⟩)
    · rw [List.length_take, Nat.min_eq_left hj]
    · rw [List.length_take]; omega
    · intro k x hx
      rw [List.getElem?_take] at hx
      split at hx
      · exact hcell _ x hx
      · cases hx
  · injection e with e0 e1 e2
    subst e0 e1 e2
    obtain rfl : j = 0 := by omega
    exact .inr ⟨a', c, rfl, rfl⟩
theorem Bytes.full (h : Bytes w (.slice p n c) l) : Bytes w (.slice p n n) l := by
  rcases h with (⟨e, rfl⟩ | ⟨g, o, c3, e, hc, hcell⟩) | ⟨a', c3, e, rfl⟩
  · injection e with e0 e1 e2
    subst e0 e1 e2
    exact .inl (.inl ⟨rfl, rfl⟩)
  · injection e with e0 e1 e2
    subst e0 e1 e2
    exact .inl (.inr ⟨g, o, _, rfl, Nat.le_refl _, hcell⟩)
  · injection e with e0 e1 e2
    subst e0 e1 e2
    exact .inr ⟨a', 0, rfl, rfl⟩
/-- a byte of bytes, where the walk looks for it -/
theorem Bytes.cellAt (h : Bytes w (.slice p n c) l) {i : Nat} {x : UInt8} (hx : l[i]? = some x) : ∃ g o, p = some ⟨g, o, none⟩ ∧ w.cell? ⟨g, o + i, none⟩ = some (.int .u8 x.toNat) := by
  rcases h with (⟨e, rfl⟩ | ⟨g, o, c3, e, hc, hcell⟩) | ⟨a', c3, e, rfl⟩
  · simp at hx
  · injection e with e0 e1 e2
    exact ⟨g, o, e0, hcell i x hx⟩
  · simp at hx
end
/-- bytes that a call has made -/
def MadeB (w : World) (l : List UInt8) (e : Ending) (w' : World) : Prop := ∃ p c, e = .returned (.slice p l.length c) ∧ BOwn w.heap.size w' (.slice p l.length c) l ∧ Below w.heap.size w w'
end Go.Proofs.YtabcdodjkfknlaaGreatDoor
