/- Walks: the files that don't count: the program's way, and the document's. Walks: Extra, Clean, and the document's Extra. Walks: few. Walks: whether all numbers of an edit are written, the document's way. Walks: the document's way to put a number, a text behind bytes. Walks: Right; a frame, the document's way. The document's sum of bytes is the program's: bit by bit, as by the table. -/
import Derived.Test.YtabcdodjkfknlaaGreatDoorPL17
import Derived.Test.YtabcdodjkfknlaaGreatDoorPL19
import Derived.Lib.SliceRun
import Derived.Test.YtabcdodjkfknlaaGreatDoorPL10
import Derived.Test.YtabcdodjkfknlaaGreatDoorPL08
import Derived.Test.YtabcdodjkfknlaaGreatDoorPL14
import Derived.Laws.BitsLemmas
namespace Go.Proofs.YtabcdodjkfknlaaGreatDoor
open Go.RowKit
attribute [local go_sem ↓] dapp_op dslK_op
attribute [local go_sem] Oper.semAt_some
/-- names in a row of one's own -/
def StO (B : Nat) (w : World) (v : Value) (l : List (List UInt8)) : Prop := w.ownsRow B 9 1 v l.length (l.map encStr)
section
variable {B : Nat} {w w' : World} {v : Value} {l : List (List UInt8)}
theorem StO.slice (h : StO B w v l) : ∃ p c, v = .slice p l.length c := own_slice h
theorem StO.keeps {S : Nat → Prop} (h : StO B w v l) (hk : Keeps S w w') (hs : ∀ g, v.ownBlock = some g → ¬ S g) : StO B w' v l := own_keeps h hk hs
theorem StO.later (h : StO B w v l) (hb : Below w.heap.size w w') : StO B w' v l := h.keeps (S := fun _ => False) (.of_below hb) (fun _ _ => id)
theorem StO.lt (h : StO B w v l) : ∀ g, v.ownBlock = some g → B ≤ g ∧ g < w.heap.size := fun g hg => World.ownsRow.lt h g hg
theorem StO.mono {B' : Nat} (h : StO B w v l) (hb : B' ≤ B) : StO B' w v l := by
  unfold StO at *
  obtain ⟨h0, ⟨e, h⟩ | ⟨g, cap, cur, e, h1, h2⟩⟩ := h
  · exact ⟨h0, .inl ⟨e, h⟩⟩
  · exact ⟨h0, .inr ⟨g, cap, cur, e, Nat.le_trans hb h1, h2⟩⟩
theorem StO.row (h : StO B w v l) : RowAt w 9 v l.length (l.map encStr) := RowAt.of_own h
theorem StO.blk {p : Option Addr} {n c : Nat} (h : StO B w (.slice p n c) l) (hn : 0 < l.length) : ∃ g cur, p = some ⟨g, 0, none⟩ ∧ B ≤ g ∧ Blk w g 9 cur ∧ l.length ≤ c ∧ c ≤ maxLen ∧ cur.size = c ∧ cur.toList.take l.length = l.map encStr := by
  obtain ⟨_, ⟨e, h⟩ | ⟨g, cap, cur, e, h1, h2, h3, h4, h5, h6⟩⟩ := h
  · have h2 : l.length = 0 := by simpa using h
    omega
  · injection e with e1 e2 e3
    subst e3
    exact ⟨g, cur, e1, h1, h2, h3, h4, by omega, by rw [Nat.mul_one] at h6; exact h6⟩
theorem str_back (s : List UInt8) : ∃ b : ByteArray, encStr s = .string b ∧ b.data.toList = s := ⟨⟨s.toArray⟩, rfl, by simp⟩
theorem StO.cell {p : Option Addr} {n c k : Nat} {s : List UInt8} (h : StO B w (.slice p n c) l) (hk : l[k]? = some s) : ∃ (g : Nat) (b : ByteArray), p = some ⟨g, 0, none⟩ ∧ B ≤ g ∧ g < w.heap.size ∧ l.length ≤ c ∧ w.cell? ⟨g, k, none⟩ = some (.string b) ∧ b.data.toList = s := by
  have hkl := (List.getElem?_eq_some_iff.1 hk).1
  obtain ⟨g, cur, hp, h1, h2, h3, _, h5, h6⟩ := h.blk (by omega)
  obtain ⟨b, e1, e2⟩ := str_back s
  refine ⟨g, b, hp, h1, h2.lt, h3, ?_, e2⟩
  rw [h2.cell]
  have : (cur.toList.take l.length)[k]? = some (.string b) := by rw [h6, List.getElem?_map, hk]; show some (encStr s) = _; rw [e1]
  rw [List.getElem?_take_of_lt hkl] at this
  simpa using this
theorem StO.set {g n c k : Nat} (h : StO B w (.slice (some ⟨g, 0, none⟩) n c) l) (hn : l.length = n) (b : ByteArray) : StO B (w.setCell ⟨g, k, none⟩ (.string b)) (.slice (some ⟨g, 0, none⟩) n c) (l.set k b.data.toList) := by
  subst hn
  unfold StO at h ⊢
  have h1 := (h.stored k (.string b)).1
  rw [List.length_set, List.map_set]
  have e : encStr b.data.toList = .string b := by unfold encStr; simp
  rw [e]
  exact h1
theorem StO.short {g n c k : Nat} (h : StO B w (.slice (some ⟨g, 0, none⟩) n c) l) (hk : k ≤ l.length) : StO B w (.slice (some ⟨g, 0, none⟩) k c) (l.take k) := by
  have hl : (l.take k).length = k := by rw [List.length_take]; omega
  obtain ⟨_, ⟨h, _⟩ | ⟨g', cap, cur, h, h1, h2, h3, h4, h5, h6⟩⟩ := h
  · cases h
  · injection h with e1 e2 e3
    injection e1 with e1
    injection e1 with e1
    subst e1 e3
    unfold StO
    rw [hl]
    refine ⟨by rw [List.length_map, hl, Nat.mul_one], .inr ⟨g, c, cur, rfl, h1, h2, by omega, h4, h5, ?_⟩⟩
    rw [List.map_take, ← h6, List.take_take, Nat.min_eq_left (by omega), Nat.mul_one]
theorem StO.past {g n c : Nat} (L : List Value) : ∀ {o : Nat} {w : World}, StO B w (.slice (some ⟨g, 0, none⟩) n c) l → l.length = n → l.length ≤ o → StO B (w.setCells g o L) (.slice (some ⟨g, 0, none⟩) n c) l ∧ Keeps (fun j => j = g) w (w.setCells g o L) := by
  induction L with
  | nil => intro o w h _ _; exact ⟨h, Keeps.refl _ _⟩
  | cons v L ih =>
    intro o w h hn ho
    have h1 : StO B (w.setCell ⟨g, o, none⟩ v) (.slice (some ⟨g, 0, none⟩) n c) l := by
      subst hn
      unfold StO at h ⊢
      have := (h.stored o v).1
      rwa [List.set_eq_of_length_le (by rw [List.length_map]; exact ho)] at this
    obtain ⟨h2, h3⟩ := ih h1 hn (o := o + 1) (by omega)
    exact ⟨h2, ((Keeps.refl (fun j => j = g) w).setCell (p := ⟨g, o, none⟩) (.inl rfl) v).trans h3⟩
end
/-- what the closure sees: the version and the number, in blocks of their own, the tables in memory -/
structure SeesV (w0 w : World) (a4 a5 : Nat) (pv : Option Addr) (cv : Nat) (x : Ver) (num : Int) : Prop where
  v : Blk w a4 30 #[.slice pv x.tables.length cv, .int .u64 x.floor, .int .u64 x.head, .int .i64 x.log, .int .i64 x.next]
  n : Blk w a5 3 #[.int .i64 num]
  b : Below w0.heap.size w0 w
theorem SeesV.keeps {w0 w w' : World} {S : Nat → Prop} {a4 a5 cv : Nat} {pv : Option Addr} {x : Ver} {num : Int} (h : SeesV w0 w a4 a5 pv cv x num) (hk : Keeps S w w') (h4 : ¬ S a4) (h5 : ¬ S a5) (hS : ∀ j, S j → w0.heap.size ≤ j) : SeesV w0 w' a4 a5 pv cv x num :=
  ⟨h.v.keeps hk h4, h.n.keeps hk h5, Keeps.below_step h.b h.b.size hk hS⟩
theorem SeesV.later {w0 w w' : World} {a4 a5 cv : Nat} {pv : Option Addr} {x : Ver} {num : Int} (h : SeesV w0 w a4 a5 pv cv x num) (hb : Below w.heap.size w w') : SeesV w0 w' a4 a5 pv cv x num :=
  h.keeps (S := fun _ => False) (.of_below hb) id id fun _ e => e.elim
set_option maxHeartbeats 1000000 in
set_option maxRecDepth 100000 in
theorem extra1_calls (s : ByteArray) (a4 a5 cv : Nat) (pv : Option Addr) (x : Ver) (num : Int) (w0 w : World) (hs : s.size ≤ 10000000) (hw : StdF w0) (hx : VerIs w0 (.agg #[.slice pv x.tables.length cv, .int .u64 x.floor, .int .u64 x.head, .int .i64 x.log, .int .i64 x.next]) x) (h : SeesV w0 w a4 a5 pv cv x num) :
    Calls Tryz.prog 79 #[.string s, .pointer (some ⟨a4, 0, none⟩), .pointer (some ⟨a5, 0, none⟩)] w fun e w' => e = .returned (.bool (wantedP x num s.data.toList)) ∧ Below w.heap.size w w' := by
  have hC := Lib.hid (wanted_calls s _ x num w hs (hw.next h.b) (hx.later h.b))
  have c4 := h.v.cell
  have c5 := h.n.cell
  clear hx h
  go_enter Tryz.func79, Tryz.ntmps79
  go_wp2_with fail
  refine hC.out.mono ?_
  rintro e w1 ⟨rfl, hb⟩
  have hb' := Lib.hid hb
  clear hb c4 c5
  go_wp2_with fail
  go_ret
  exact ⟨rfl, hb'.out⟩
/-- the first that counts -/
def FirstIs (p : List UInt8 → Bool) (l : List (List UInt8)) (j : Int) : Prop := (j = -1 ∧ l.any p = false) ∨ ∃ q : Nat, j = (q : Int) ∧ q < l.length ∧ (l.take q).any p = false ∧ (l.take (q + 1)).filter (fun s => !p s) = l.take q
set_option maxHeartbeats 2000000 in
set_option maxRecDepth 100000 in
theorem idxS_calls (p : Option Addr) (c : Nat) (l : List (List UInt8)) (B a4 a5 cv : Nat) (pv : Option Addr) (x : Ver) (num : Int) (w0 w : World) (hl : ∀ s ∈ l, s.length ≤ 10000000) (hln : l.length ≤ 1000000) (hw : StdF w0) (hx : VerIs w0 (.agg #[.slice pv x.tables.length cv, .int .u64 x.floor, .int .u64 x.head, .int .i64 x.log, .int .i64 x.next]) x) (h : SeesV w0 w a4 a5 pv cv x num) (hO : StO B w (.slice p l.length c) l) :
    Calls Tryz.prog 124 #[.slice p l.length c, .func (.func 79) #[] #[.pointer (some ⟨a4, 0, none⟩), .pointer (some ⟨a5, 0, none⟩)]] w fun e w' => ∃ j, e = .returned (.int .i64 j) ∧ FirstIs (wantedP x num) l j ∧ Below w.heap.size w w' := by
  have hO' := Lib.hid hO
  have h' := Lib.hid h
  have hx' := Lib.hid hx
  have hl' := Lib.hid hl
  clear hO h hx hl
  obtain ⟨L, hL⟩ : ∃ L, l.length = L := ⟨_, rfl⟩
  have hL' := Lib.hid hL
  rw [hL] at hln hO' ⊢
  clear hL
  go_enter Tryz.func124, Tryz.ntmps124
  go_wp2
  go_loopw [5, 8] (fun _ i wr => ∃ k : Nat, i = .int .i64 k ∧ k ≤ L ∧ (l.take k).any (wantedP x num) = false ∧ Below w.heap.size w wr) (fun _ i _ => L - (intOf i).toNat)
  case atStart => exact ⟨0, rfl, by omega, rfl, Below.refl _ _⟩
  case round =>
    obtain ⟨wo, rfl⟩ : ∃ wo : World, wo = wr := ⟨_, rfl⟩
    obtain ⟨k, rfl, hk, hany, hb⟩ := hrel
    by_cases hlt : k < L
    · obtain ⟨s, hs⟩ : ∃ t, l[k]? = some t := ⟨_, List.getElem?_eq_getElem (by rw [hL'.out]; exact hlt)⟩
      obtain ⟨g, b, rfl, _, hgl, hlc, q0, hbs⟩ := (hO'.out.later hb).cell hs
      have hc := extra1_calls b a4 a5 cv pv x num w0 wo (by rw [Lib.size_eq, hbs]; exact hl'.out s (List.mem_of_getElem? hs)) hw hx'.out (h'.out.later hb)
      rw [hbs] at hc
      have htake : (l.take (k + 1)).any (wantedP x num) = wantedP x num s := by
        rw [List.take_add_one, hs, List.any_append, hany]; simp
      have hfil : wantedP x num s = true → (l.take (k + 1)).filter (fun s => !wantedP x num s) = l.take k := fun hp => by
        rw [List.take_add_one, hs, List.filter_append]
        have e1 : (l.take k).filter (fun s => !wantedP x num s) = l.take k := List.filter_eq_self.2 fun t ht => by
          rw [List.any_eq_false] at hany
          simpa using hany t ht
        rw [e1]
        simp [hp]
      have hb' := Lib.hid hb
      have hc' := Lib.hid hc
      have htake' := Lib.hid htake
      have hany' := Lib.hid hany
      have hfil' := Lib.hid hfil
      clear hb hc htake hany hfil hs hbs
      have n1 : 0 < L := by omega
      go_wp2_with fail
      (with_reducible refine hc'.out.mono ?_)
      rintro e w1 ⟨rfl, hb1⟩
      have hb2 := Lib.hid (hb'.out.trans (hb1.mono hb'.out.size))
      clear hb1
      by_cases ho : wantedP x num s = true
      · rw [ho]
        go_wp2_with fail
        go_ret
        exact ⟨k, rfl, .inr ⟨k, rfl, by rw [hL'.out]; exact hlt, hany'.out, hfil'.out ho⟩, hb2.out⟩
      · rw [Bool.not_eq_true] at ho
        rw [ho]
        go_wp2_with fail
        exact ⟨⟨k + 1, by rw [Int.natCast_add]; rfl, by omega, by rw [htake'.out, ho], hb2.out⟩, by simp only [intOf]; omega⟩
    · obtain rfl : k = L := by omega
      rw [← hL'.out, List.take_length] at hany
      go_wp2_with fail
      go_ret
      exact ⟨-1, rfl, .inl ⟨rfl, hany⟩, hb⟩
/-- what is in the row when j of the names are gone through, i of them kept -/
structure DelInv (p : List UInt8 → Bool) (l cur : List (List UInt8)) (i j : Nat) : Prop where
  len : cur.length = l.length
  ij : i < j
  jn : j ≤ l.length
  low : cur.take i = (l.take j).filter fun s => !p s
  high : cur.drop j = l.drop j
section
variable {p : List UInt8 → Bool} {l cur : List (List UInt8)} {i j q : Nat} {s : List UInt8}
theorem DelInv.start (hq : q < l.length) (h : (l.take (q + 1)).filter (fun s => !p s) = l.take q) : DelInv p l l q (q + 1) := ⟨rfl, Nat.lt_succ_self q, hq, h.symm, rfl⟩
theorem DelInv.get (h : DelInv p l cur i j) (hs : l[j]? = some s) : cur[j]? = some s := by
  have := congrArg (fun m : List (List UInt8) => m[0]?) h.high
  simp only [List.getElem?_drop, Nat.add_zero] at this
  rw [this, hs]
theorem DelInv.skip (h : DelInv p l cur i j) (hs : l[j]? = some s) (hp : p s = true) : DelInv p l cur i (j + 1) := by
  have hj := (List.getElem?_eq_some_iff.1 hs).1
  refine ⟨h.len, by have := h.ij; omega, hj, ?_, ?_⟩
  · rw [h.low, List.take_add_one, hs, List.filter_append]; simp [hp]
  · have e : ∀ m : List (List UInt8), m.drop (j + 1) = (m.drop j).drop 1 := fun m => by rw [List.drop_drop]
    rw [e, e, h.high]
theorem DelInv.keep (h : DelInv p l cur i j) (hs : l[j]? = some s) (hp : p s = false) : DelInv p l (cur.set i s) (i + 1) (j + 1) := by
  have hj := (List.getElem?_eq_some_iff.1 hs).1
  have hij := h.ij
  have hil : i < cur.length := by rw [h.len]; omega
  refine ⟨by rw [List.length_set]; exact h.len, by omega, hj, ?_, ?_⟩
  · rw [List.take_add_one, List.getElem?_set_self hil, List.take_set_of_le (Nat.le_refl i), h.low, List.take_add_one, hs, List.filter_append]
    simp [hp]
  · have e : ∀ m : List (List UInt8), m.drop (j + 1) = (m.drop j).drop 1 := fun m => by rw [List.drop_drop]
    rw [List.drop_set_of_lt (by omega), e, e, h.high]
theorem DelInv.fin (h : DelInv p l cur i l.length) : cur.take i = l.filter fun s => !p s := by
  have := h.low
  rwa [List.take_of_length_le (Nat.le_refl _)] at this
end
theorem zero_str (w : World) : (zeroValue 9).run Tryz.prog w = .ok (.string ⟨#[]⟩) w := Tryz.zeroValue9 w
theorem clear_str {B : Nat} {w : World} {g n c k : Nat} {l : List (List UInt8)} (h : StO B w (.slice (some ⟨g, 0, none⟩) n c) l) (hn : l.length = n) (hk : k < n) (ty : TypeId) :
    (Builtin.clear_ #[51] ty #[.slice (some ⟨g, k, none⟩) (n - k) (c - k)]).run Tryz.prog w = .ok (.tuple #[]) (w.setCells g k (List.replicate (n - k) (.string ⟨#[]⟩))) := by
  obtain ⟨g', cur, e, _, hb, hnc, _, hcs, _⟩ := h.blk (by omega)
  obtain rfl : g = g' := by injection e with e; injection e
  exact Lib.run_clear_slice w _ _ ty _ Tryz.underlying51 zero_str rfl rfl g k (n - k) (c - k) (by omega) (fun j hj => by rw [hb.cell, Array.getElem?_eq_getElem (by rw [hcs]; omega)]; rfl) (fun j _ => hb.frozen _)
end Go.Proofs.YtabcdodjkfknlaaGreatDoor
namespace Go.Proofs.YtabcdodjkfknlaaGreatDoor
open Go.RowKit
theorem ssl_from (p : Option Addr) (n c i : Nat) (h : i ≤ n) (w : World) : (dslK 51 (.slice p n c) (some (.int .i64 i)) none none).run Tryz.prog w = .ok (.slice (if c = i then p else p.map (·.add i)) (n - i) (c - i)) w := by
  have h1 : (0 : Int) ≤ (i : Int) := by omega
  unfold dslK
  simp [Instr.sliceAt, Instr.slice, Instr.sliceBounds, Instr.sliceBound, run_underlying Tryz.underlying51, Tryz.sizeOf9, go_sem, h1, h]
theorem ssl_to (p : Option Addr) (n c i : Nat) (h : i ≤ c) (w : World) : (dslK 51 (.slice p n c) none (some (.int .i64 i)) none).run Tryz.prog w = .ok (.slice p i c) w := by
  have h1 : (0 : Int) ≤ (i : Int) := by omega
  unfold dslK
  simp [Instr.sliceAt, Instr.slice, Instr.sliceBounds, Instr.sliceBound, run_underlying Tryz.underlying51, Tryz.sizeOf9, go_sem, h1, h]
attribute [local go_sem ↓] dapp_op dslK_op
attribute [local go_sem] Oper.semAt_some
/-- the names that don't count, in a row of one's own -/
def ExtraPost (B : Nat) (w : World) (l : List (List UInt8)) (e : Ending) (w' : World) : Prop := ∃ p c, e = .returned (.slice p l.length c) ∧ StO B w' (.slice p l.length c) l ∧ Below B w w'
set_option maxHeartbeats 4000000 in
set_option maxRecDepth 100000 in
theorem delF_calls (p : Option Addr) (c : Nat) (l : List (List UInt8)) (a4 a5 cv : Nat) (pv : Option Addr) (x : Ver) (num : Int) (w0 w : World) (hl : ∀ s ∈ l, s.length ≤ 10000000) (hln : l.length ≤ 1000000) (hw : StdF w0) (hx : VerIs w0 (.agg #[.slice pv x.tables.length cv, .int .u64 x.floor, .int .u64 x.head, .int .i64 x.log, .int .i64 x.next]) x) (h : SeesV w0 w a4 a5 pv cv x num) (hO : StO w0.heap.size w (.slice p l.length c) l) :
    Calls Tryz.prog 78 #[.slice p l.length c, .func (.func 79) #[] #[.pointer (some ⟨a4, 0, none⟩), .pointer (some ⟨a5, 0, none⟩)]] w fun e w' => ∃ p c, e = .returned (.slice p (extraP x num l).length c) ∧ StO w0.heap.size w' (.slice p (extraP x num l).length c) (extraP x num l) ∧ Below w0.heap.size w0 w' := by
  have hI := idxS_calls p c l w0.heap.size a4 a5 cv pv x num w0 w hl hln hw hx h hO
  obtain ⟨X, hX⟩ : ∃ X, extraP x num l = X := ⟨_, rfl⟩
  rw [hX]
  have hX2 : l.filter (fun s => !wantedP x num s) = X := hX
  obtain ⟨L, hL⟩ : ∃ L, l.length = L := ⟨_, rfl⟩
  have hL' := Lib.hid hL
  rw [hL] at hI hln hO ⊢
  have hI' := Lib.hid hI
  have hO' := Lib.hid hO
  have h' := Lib.hid h
  have hx' := Lib.hid hx
  have hl' := Lib.hid hl
  have hX' := Lib.hid hX2
  clear hI hO h hx hl hX hX2 hL
  go_enter Tryz.func78, Tryz.ntmps78
  go_wp2_with fail
  (with_reducible refine hI'.out.mono ?_)
  rintro e w1 ⟨j0, rfl, hF, hb1⟩
  have h1 := Lib.hid (h'.out.later hb1)
  have hO1 := Lib.hid (hO'.out.later hb1)
  clear hI' h' hO' hb1
  rcases hF with ⟨rfl, hany⟩ | ⟨q, rfl, hq, hany, hfil⟩
  · have e1 : l = X := by
      rw [← hX'.out]
      exact (List.filter_eq_self.2 fun t ht => by
        rw [List.any_eq_false] at hany
        simpa using hany t ht).symm
    have e2 := Lib.hid e1
    clear e1 hany
    go_wp2_with fail
    go_ret
    have hXL : X.length = L := by rw [← e2.out, hL'.out]
    exact ⟨p, c, by rw [hXL]; rfl, by rw [hXL, ← e2.out]; exact hO1.out, h1.out.b⟩
  · have hD := Lib.hid (DelInv.start hq hfil)
    have hq' : q < L := by rw [← hL'.out]; exact hq
    obtain ⟨g, cur0, rfl, hBg, _, hLc, hcm, _⟩ := hO1.out.blk (by rw [hL'.out]; omega)
    rw [hL'.out] at hLc
    have hcm' : c ≤ 9223372036854775807 := hcm
    have t1 : ((q : Int) == -1) = false := by rw [beq_eq_false_iff_ne]; omega
    clear hany hfil hq hcm
    go_wp2_with fail
    go_loopw [5, 6] (fun i j wr => ∃ (a b : Nat) (cur : List (List UInt8)), i = .int .i64 a ∧ j = .int .i64 b ∧ DelInv (wantedP x num) l cur a b ∧ StO w0.heap.size wr (.slice (some ⟨g, 0, none⟩) L c) cur ∧ SeesV w0 wr a4 a5 pv cv x num) (fun _ j _ => L - (intOf j).toNat)
    case atStart => exact ⟨q, q + 1, l, rfl, by go_num, hD.out, hO1.out, h1.out⟩
    case round =>
      obtain ⟨wo, rfl⟩ : ∃ wo : World, wo = wr := ⟨_, rfl⟩
      clear hD hO1 h1
      obtain ⟨a, b, cur, rfl, rfl, hD, hO, hS⟩ := hrel
      have hij := hD.ij
      have hjn := hD.jn
      have hcl := hD.len
      rw [hL'.out] at hjn hcl
      by_cases hlt : b < L
      · obtain ⟨s, hs⟩ : ∃ t, l[b]? = some t := ⟨_, List.getElem?_eq_getElem (by rw [hL'.out]; exact hlt)⟩
        obtain ⟨g', bs, hg, _, hgl, hlc, q0, hbs⟩ := hO.cell (hD.get hs)
        obtain rfl : g = g' := by injection hg with e; injection e
        have hc := extra1_calls bs a4 a5 cv pv x num w0 wo (by rw [Lib.size_eq, hbs]; exact hl'.out s (List.mem_of_getElem? hs)) hw hx'.out hS
        rw [hbs] at hc
        have hskip := Lib.hid (fun hp => hD.skip hs hp)
        have hkeep := Lib.hid (fun hp => hD.keep hs hp)
        have hc' := Lib.hid hc
        have hO' := Lib.hid hO
        have hS' := Lib.hid hS
        have hbs' := Lib.hid hbs
        have k1 : 0 < L := by omega
        clear hc hD hO hS hg hs hbs
        go_wp2_with fail
        (with_reducible refine hc'.out.mono ?_)
        rintro e w2 ⟨rfl, hb2⟩
        have hO2 := Lib.hid (hO'.out.later hb2)
        have hS2 := Lib.hid (hS'.out.later hb2)
        clear hb2 q0 hO' hS' hc'
        by_cases ho : wantedP x num s = true
        · rw [ho]
          have hD2 := Lib.hid (hskip.out ho)
          clear hskip hkeep ho
          go_wp2_with fail
          go_roundw
          case rel => exact ⟨a, b + 1, cur, rfl, by go_num, hD2.out, hO2.out, hS2.out⟩
          case measure => simp [intOf]; omega
        · rw [Bool.not_eq_true] at ho
          rw [ho]
          have hD2 := Lib.hid (hkeep.out ho)
          clear hskip hkeep ho
          obtain ⟨g', cu, hg, hBg2, hbk, _, _, hcs, _⟩ := hO2.out.blk (by rw [hcl]; omega)
          obtain rfl : g = g' := by injection hg with e; injection e
          have qf := hbk.frozen
          have qa : ∃ u, w2.cell? ⟨g, a, none⟩ = some u := by
            rw [hbk.cell]
            exact ⟨_, Array.getElem?_eq_getElem (by omega)⟩
          obtain ⟨u0, qa⟩ := qa
          have n4 : a4 ≠ g := Blk.ne_ hS2.out.v hbk (by decide)
          have n5 : a5 ≠ g := Blk.ne_ hS2.out.n hbk (by decide)
          have ks : Keeps (fun j => j = g) w2 (w2.setCell ⟨g, a, none⟩ (.string bs)) := (Keeps.refl (fun j => j = g) w2).setCell (p := ⟨g, a, none⟩) (.inl rfl) _
          have hO3 := hO2.out.set (k := a) hcl bs
          rw [hbs'.out] at hO3
          have hO4 := Lib.hid hO3
          have hS3 := Lib.hid (hS2.out.keeps ks (fun e => n4 e) (fun e => n5 e) fun j e => by rw [e]; exact hBg)
          clear hO2 hS2 hg hbk ks hO3 hcs n4 n5
          go_wp2_with fail
          go_roundw
          case rel => exact ⟨a + 1, b + 1, cur.set a s, by go_num, by go_num, hD2.out, hO4.out, hS3.out⟩
          case measure => simp [intOf]; omega
      · obtain rfl : b = L := by omega
        have hfin : cur.take a = X := by
          rw [← hX'.out]
          have hD2 := hD
          rw [← hL'.out] at hD2
          exact hD2.fin
        have hcr := clear_str hO hcl (k := a) (by omega)
        have hsf := fun W => ssl_from (some ⟨g, 0, none⟩) b c a (by omega) W
        rw [if_neg (by omega)] at hsf
        have hsf : ∀ W, (dslK 51 (.slice (some ⟨g, 0, none⟩) b c) (some (.int .i64 a)) none none).run Tryz.prog W = .ok (.slice (some ⟨g, a, none⟩) (b - a) (c - a)) W := fun W => by rw [hsf]; show Result.ok (Value.slice (some ((⟨g, 0, none⟩ : Addr).add a)) _ _) W = _; rw [Addr.add_lit, Nat.zero_add]
        have hst := fun W => ssl_to (some ⟨g, 0, none⟩) b c a (by omega) W
        have hps := (hO.short (k := a) (by omega)).past (List.replicate (b - a) (.string ⟨#[]⟩)) (o := a) (by rw [List.length_take]; omega) (by rw [List.length_take]; omega)
        rw [hfin] at hps
        have hXa : X.length = a := by rw [← hfin, List.length_take]; omega
        have hB2 := Lib.hid (Keeps.below_step hS.b hS.b.size hps.2 fun j e => by rw [e]; exact hBg)
        have hO2 := Lib.hid hps.1
        have hXa' := Lib.hid hXa
        clear hps hfin hXa hD hS hO hcl
        go_wp2_with fail
        go_ret
        exact ⟨some ⟨g, 0, none⟩, c, by rw [hXa'.out]; rfl, by rw [hXa'.out]; exact hO2.out, hB2.out⟩
end Go.Proofs.YtabcdodjkfknlaaGreatDoor
namespace Go.Proofs.YtabcdodjkfknlaaGreatDoor
open Go.RowKit
attribute [local go_sem] Oper.semAt_some
def Tbl.few (t : Tbl) : Bool := decide (t.first.size + t.last.size ≤ 300)
/-- has an edit few tables, few drops, short keys? -/
def Edt.few (e : Edt) : Bool := e.add.all Tbl.few && (decide (e.add.length ≤ 40) && decide (e.drop.length ≤ 40))
/-- texts that are no longer than a machine has them -/
def slim (l : List Tbl) : Prop := ∀ t ∈ l, t.first.size ≤ 2000000 ∧ t.last.size ≤ 2000000
def Ver.few (v : Ver) : Bool := v.tables.all Tbl.few && decide (v.tables.length ≤ 40)
end Go.Proofs.YtabcdodjkfknlaaGreatDoor
namespace Go.Proofs.YtabcdodjkfknlaaGreatDoor
open Go.RowKit
attribute [local go_sem ↓] dapp_op dslK_op
attribute [local go_sem] Oper.semAt_some
/-- all numbers of an edit -/
def Tbl.nums (t : Tbl) : List Int := [t.num, t.level, t.size]
def Edt.numsE (e : Edt) : List Int := [e.log, e.next] ++ e.drop ++ e.add.flatMap Tbl.nums
theorem right_nums (e : Edt) : e.numsE.all (fun n => !oddI n) = e.right := by
  unfold Edt.numsE Edt.right
  rw [List.all_append, List.all_append]
  have h1 : (e.add.flatMap Tbl.nums).all (fun n => !oddI n) = e.add.all Tbl.right := by
    rw [List.all_flatMap]
    congr 1
    funext t
    unfold Tbl.nums Tbl.right
    simp [Bool.and_assoc]
  rw [h1]
  simp
theorem rkI_lit (w : World) (l : List Int) (hl : l.length ≤ 1000) : rkI.Own w.heap.size (w.alloc (.cells (l.map (Value.int .i64)).toArray 3)) (.slice (some ⟨w.heap.size, 0, none⟩) l.length l.length) l := by
  have hc : rkI.cells l = l.map (Value.int .i64) := by
    unfold RowK.cells
    induction l with
    | nil => rfl
    | cons n l ih =>
      rw [List.flatMap_cons, List.map_cons, ih (by simp at hl; omega)]
      rfl
  have h1 : l.length * 1 = l.length := Nat.mul_one _
  refine ⟨by rw [hc, List.length_map]; exact h1.symm, .inr ⟨w.heap.size, l.length, _, rfl, Nat.le_refl _, heap_alloc_new w _, Nat.le_refl _, by unfold maxLen; omega, by rw [List.size_toArray, List.length_map]; exact h1.symm, ?_⟩⟩
  rw [hc]
  exact List.take_of_length_le (by rw [List.length_map]; exact Nat.le_of_eq h1.symm)
theorem nums_len (l : List Tbl) : (l.flatMap Tbl.nums).length = 3 * l.length := by
  induction l with
  | nil => rfl
  | cons t l ih => rw [List.flatMap_cons, List.length_append, ih, List.length_cons]; show 3 + _ = _; omega
def MadeI (w : World) (l : List Int) (e : Ending) (w' : World) : Prop := ∃ p c, e = .returned (.slice p l.length c) ∧ rkI.Own w.heap.size w' (.slice p l.length c) l ∧ Below w.heap.size w w'
set_option maxHeartbeats 4000000 in
set_option maxRecDepth 100000 in
theorem numbers16_calls (p q : Option Addr) (c d : Nat) (x : Edt) (w : World) (hA : rkT.At w p x.add) (hD : rkI.At w q x.drop) (hf : x.add.length ≤ 90000 ∧ x.drop.length ≤ 90000) (hq : q = none → d = 0) :
    Calls Tryz.prog 40 #[.agg #[.slice p x.add.length c, .slice q x.drop.length d, .int .u64 x.floor, .int .u64 x.head, .int .i64 x.log, .int .i64 x.next]] w (MadeI w x.numsE) := by
  obtain ⟨ha, hd⟩ := hf
  obtain ⟨l, dl, fl, hd_, lg, nx⟩ := x
  simp only at hA hD ha hd ⊢
  obtain ⟨PP, hPP⟩ : ∃ PP, MadeI w (Edt.numsE ⟨l, dl, fl, hd_, lg, nx⟩) = PP := ⟨_, rfl⟩
  have hnum : Edt.numsE ⟨l, dl, fl, hd_, lg, nx⟩ = [lg, nx] ++ dl ++ l.flatMap Tbl.nums := rfl
  rw [hnum] at hPP
  rw [hnum, hPP]
  obtain ⟨W1, hW1⟩ : ∃ W1, w.alloc (.cells #[.slice p l.length c, .slice q dl.length d, .int .u64 fl, .int .u64 hd_, .int .i64 lg, .int .i64 nx] 33) = W1 := ⟨_, rfl⟩
  have b1 : Blk W1 w.heap.size 33 #[.slice p l.length c, .slice q dl.length d, .int .u64 fl, .int .u64 hd_, .int .i64 lg, .int .i64 nx] := by rw [← hW1]; exact Blk.new w _ _
  have hB1 : Below w.heap.size w W1 := by rw [← hW1]; exact (Below.refl _ w).alloc (Nat.le_refl _) _
  obtain ⟨W2, hW2⟩ : ∃ W2, W1.alloc (.cells #[.int .i64 lg, .int .i64 nx] 3) = W2 := ⟨_, rfl⟩
  have hB2 : Below W1.heap.size W1 W2 := by rw [← hW2]; exact (Below.refl _ W1).alloc (Nat.le_refl _) _
  have o1 : rkI.Own W1.heap.size W2 (.slice (some ⟨W1.heap.size, 0, none⟩) 2 2) [lg, nx] := by rw [← hW2]; exact rkI_lit W1 [lg, nx] (by show (2 : Nat) ≤ _; decide)
  obtain ⟨p3, c3, w3, e3, o3, k3, _⟩ := RowK.can_at (P := Tryz.prog) rkI_ok ((hD.below hB1).below hB2) rfl (by omega) hq W2 (Below.refl _ _) W1.heap.size _ [lg, nx] hB2.size (by show (2 : Nat) ≤ _; decide) o1
  have e3 : (dappOp #[31, 31] 31 #[.slice (some ⟨W1.heap.size, 0, none⟩) 2 2, .slice q dl.length d]).run Tryz.prog W2 = .ok (.slice p3 (2 + dl.length) c3) w3 := e3
  have hb3 : Below w.heap.size w w3 := (hB1.trans (hB2.mono hB1.size)).trans (k3.below (fun j _ e => by obtain rfl := Option.some.inj e; exact hB1.size) (Nat.le_trans hB1.size hB2.size))
  have b2 := b1.below hB2 b1.lt
  have b3 := (b1.below hB2 b1.lt).keeps k3 (fun e => by
    have h1 := Option.some.inj e
    have h2 := b1.lt
    have h3 : W1.heap.size = w.heap.size := h1
    omega)
  obtain ⟨L, hL⟩ : ∃ L, l.length = L := ⟨_, rfl⟩
  obtain ⟨M, hM⟩ : ∃ M, dl.length = M := ⟨_, rfl⟩
  rw [hL] at b1 b2 b3 hW1 ha ⊢
  rw [hM] at b1 b2 b3 hW1 e3 o3 hd ⊢
  have c1 := b1.cell
  have c2 := b2.cell
  have c3_ := b3.cell
  have hb3' := Lib.hid hb3
  have hA' := Lib.hid hA
  have hL' := Lib.hid hL
  have hM' := Lib.hid hM
  have hPP' := Lib.hid hPP
  have o3' := Lib.hid (o3.mono (B' := w.heap.size) hB1.size)
  obtain ⟨G0, hG0⟩ : ∃ G, W1.heap.size = G := ⟨_, rfl⟩
  rw [hG0] at e3
  clear hb3 b3 b2 hL hM hPP o3 k3 o1 hA hD hB2 hB1 b1 hnum
  go_enter Tryz.func40, Tryz.ntmps40
  go_wp2
  go_loopw [3, 5, 17] (fun b _ i wr => ∃ (k : Nat) (pb : Option Addr) (cb : Nat), i = .int .i64 k ∧ k ≤ L ∧ b = .slice pb (2 + M + 3 * k) cb ∧ rkI.Own w.heap.size wr b ([lg, nx] ++ dl ++ (l.take k).flatMap Tbl.nums) ∧ Below w.heap.size w wr) (fun _ _ i _ => L - (intOf i).toNat)
  case atStart => exact ⟨0, p3, c3, rfl, Nat.zero_le _, rfl, by simpa using o3'.out, hb3'.out⟩
  case round =>
    obtain ⟨k, pb, cb, rfl, hk, rfl, ho, hb⟩ := hrel
    obtain ⟨wo, rfl⟩ : ∃ wo : World, wo = wr := ⟨_, rfl⟩
    have ho' := Lib.hid ho
    have hb' := Lib.hid hb
    clear ho hb c1 c2 c3_ e3
    by_cases hlt : k < L
    · obtain ⟨t, ht⟩ : ∃ t, l[k]? = some t := ⟨_, List.getElem?_eq_getElem (by rw [hL'.out]; exact hlt)⟩
      obtain ⟨a, b, rfl, hab, hbl, q0, q1, q2, q3, q4⟩ := tbl_at (hA'.out.below hb'.out) ht
      have hft : (l.take (k + 1)).flatMap Tbl.nums = (l.take k).flatMap Tbl.nums ++ Tbl.nums t := by
        rw [List.take_add_one, ht, List.flatMap_append]
        simp
      have hnt : Tbl.nums t = [t.num, t.level, t.size] := rfl
      rw [hnt] at hft
      have hft' := Lib.hid hft
      clear hft hnt ht
      obtain ⟨tn, tl, tz, tf, ta⟩ := t
      simp only at q0 q1 q2 q3 q4 hft'
      obtain ⟨W4, hW4⟩ : ∃ W4, wo.alloc (.cells #[.int .i64 tn, .int .i64 tl, .int .i64 tz, .string tf, .string ta] 76) = W4 := ⟨_, rfl⟩
      have hA4 : Below wo.heap.size wo W4 := by rw [← hW4]; exact (Below.refl _ wo).alloc (Nat.le_refl _) _
      have bT : Blk W4 wo.heap.size 76 #[.int .i64 tn, .int .i64 tl, .int .i64 tz, .string tf, .string ta] := by rw [← hW4]; exact Blk.new wo _ _
      obtain ⟨T, hT⟩ : ∃ T, wo.heap.size = T := ⟨_, rfl⟩
      rw [hT] at bT
      have tc := bT.cell
      obtain ⟨W5, hW5⟩ : ∃ W5, W4.alloc (.cells #[.int .i64 tn, .int .i64 tl, .int .i64 tz] 3) = W5 := ⟨_, rfl⟩
      have hA5 : Below W4.heap.size W4 W5 := by rw [← hW5]; exact (Below.refl _ W4).alloc (Nat.le_refl _) _
      have bN : Blk W5 W4.heap.size 3 #[.int .i64 tn, .int .i64 tl, .int .i64 tz] := by rw [← hW5]; exact Blk.new W4 _ _
      have o5 := (ho'.out.later hA4).later hA5
      have hb5 := (hb'.out.trans (hA4.mono hb'.out.size)).trans (hA5.mono (Nat.le_trans hb'.out.size hA4.size))
      have hll : ([lg, nx] ++ dl ++ (l.take k).flatMap Tbl.nums).length = 2 + M + 3 * k := by
        rw [List.length_append, nums_len, List.length_append, List.length_take, hM'.out, hL'.out]
        show 2 + M + _ = _
        omega
      obtain ⟨p6, c6, w6, e6, o6, k6, _⟩ := RowK.can_row (P := Tryz.prog) rkI_ok (Wd := W5) (a := ⟨W4.heap.size, 0, none⟩) (m := 3) (c := 3) (news := [tn, tl, tz]) rfl (by omega) (.inr bN.lt) (fun j u hj => by
        rw [addr_at, bN.cell]
        rcases j with _ | _ | _ | j
        · exact hj
        · exact hj
        · exact hj
        · have hc : rkI.cells [tn, tl, tz] = [.int .i64 tn, .int .i64 tl, .int .i64 tz] := rfl
          rw [hc] at hj
          simp at hj) W5 (Below.refl _ _) w.heap.size _ _ hb5.size (by rw [hll]; omega) o5
      rw [hll] at e6 o6
      have e6 : (dappOp #[31, 31] 31 #[.slice pb (2 + M + 3 * k) cb, .slice (some ⟨W4.heap.size, 0, none⟩) 3 3]).run Tryz.prog W5 = .ok (.slice p6 (2 + M + 3 * k + 3) c6) w6 := e6
      have hb6 := Lib.hid (hb5.trans (k6.below (fun j _ e => (o5.lt j e).1) hb5.size))
      have o6' := Lib.hid o6
      obtain ⟨G, hG⟩ : ∃ G, W4.heap.size = G := ⟨_, rfl⟩
      rw [hG] at e6
      obtain ⟨Q, hQ⟩ : ∃ Q, 2 + M + 3 * k = Q := ⟨_, rfl⟩
      rw [hQ] at e6 o6' ⊢
      have hQ' := Lib.hid hQ
      clear hQ o5 hb5 hll o6 k6 bN bT hA4 hA5
      go_wp2
      refine ⟨⟨k + 1, p6, c6, by go_num, by omega, ?_, ?_, hb6.out⟩, by simp only [intOf]; omega⟩
      · rw [← hQ'.out]
        rfl
      · rw [hft'.out, ← List.append_assoc]
        exact o6'.out
    · obtain rfl : k = L := by omega
      have hfull : l.take k = l := List.take_of_length_le (Nat.le_of_eq hL'.out)
      rw [hfull] at ho'
      have hll : ([lg, nx] ++ dl ++ l.flatMap Tbl.nums).length = 2 + M + 3 * k := by
        rw [List.length_append, nums_len, List.length_append, hM'.out, hL'.out]
        show 2 + M + _ = _
        omega
      have hll' := Lib.hid hll
      clear hll hfull
      go_wp2
      rw [← hPP'.out]
      exact ⟨pb, cb, by rw [hll'.out]; rfl, by rw [hll'.out]; exact ho'.out, hb'.out⟩
end Go.Proofs.YtabcdodjkfknlaaGreatDoor
namespace Go.Proofs.YtabcdodjkfknlaaGreatDoor
open Go.RowKit
attribute [local go_sem ↓] dapp_op dslK_op
end Go.Proofs.YtabcdodjkfknlaaGreatDoor
namespace Go.Proofs.YtabcdodjkfknlaaGreatDoor
open Go.RowKit
attribute [local go_sem ↓] dapp_op dslK_op
attribute [local go_sem] Oper.semAt_some
set_option maxHeartbeats 4000000 in
set_option maxRecDepth 100000 in
theorem right16_any (p q : Option Addr) (c d : Nat) (x : Edt) (w : World) (hA : rkT.At w p x.add) (hD : rkI.At w q x.drop) (hf : x.add.length ≤ 90000 ∧ x.drop.length ≤ 90000) (hq : q = none → d = 0) :
    Calls Tryz.prog 16 #[.agg #[.slice p x.add.length c, .slice q x.drop.length d, .int .u64 x.floor, .int .u64 x.head, .int .i64 x.log, .int .i64 x.next]] w fun e w' => e = .returned (.bool x.right) ∧ Below w.heap.size w w' := by
  have hB1 : Below w.heap.size w (w.alloc (.cells #[.slice p x.add.length c, .slice q x.drop.length d, .int .u64 x.floor, .int .u64 x.head, .int .i64 x.log, .int .i64 x.next] 33)) := (Below.refl _ w).alloc (Nat.le_refl _) _
  have hC := Lib.hid (numbers16_calls p q c d x _ (hA.below hB1) (hD.below hB1) hf hq)
  have b1 := (Blk.new w 33 #[.slice p x.add.length c, .slice q x.drop.length d, .int .u64 x.floor, .int .u64 x.head, .int .i64 x.log, .int .i64 x.next]).cell
  have hR := right_nums x
  obtain ⟨R, hRe⟩ : ∃ R, x.right = R := ⟨_, rfl⟩
  rw [hRe] at hR ⊢
  obtain ⟨ns, hns⟩ : ∃ ns, x.numsE = ns := ⟨_, rfl⟩
  rw [hns] at hR hC
  have hl : ns.length ≤ 400000 := by
    obtain ⟨ha, hd⟩ := hf
    rw [← hns]
    unfold Edt.numsE
    rw [List.length_append, nums_len, List.length_append]
    show 2 + _ + _ ≤ _
    omega
  obtain ⟨N, hN⟩ : ∃ N, ns.length = N := ⟨_, rfl⟩
  rw [hN] at hl
  have hR' := Lib.hid hR
  have hN' := Lib.hid hN
  have hB1' := Lib.hid hB1
  clear hA hD hf hq hR hRe hns hN hB1
  go_enter Tryz.func16, Tryz.ntmps16
  go_wp2_with fail
  refine hC.out.mono ?_
  rintro e w1 ⟨p1, c1, rfl, o1, b2⟩
  have hB2 := Lib.hid (hB1'.out.trans (b2.mono hB1'.out.size))
  have hAt := o1.at_ rkI_ok
  rw [hN'.out]
  have hAt' := Lib.hid hAt
  clear b2 o1 hAt hC b1
  go_wp2
  go_loopw [4, 8] (fun _ i wr => ∃ k : Nat, i = .int .i64 k ∧ k ≤ N ∧ (ns.take k).all (fun n => !oddI n) = true ∧ w1 = wr) (fun _ i _ => N - (intOf i).toNat)
  case atStart => exact ⟨0, rfl, Nat.zero_le _, rfl, rfl⟩
  case round =>
    obtain ⟨k, rfl, hk, hall, rfl⟩ := hrel
    have hall' := Lib.hid hall
    clear hall
    by_cases hlt : k < N
    · obtain ⟨n, hn⟩ : ∃ n, ns[k]? = some n := ⟨_, List.getElem?_eq_getElem (by rw [hN'.out]; exact hlt)⟩
      obtain ⟨a, rfl, hab, hc⟩ := hAt'.out k n hn
      have hc0 := hc 0 _ rfl
      rw [show rkI.K = 1 from rfl, Nat.mul_one, Nat.add_zero] at hc0
      have hmem := Lib.hid (List.mem_of_getElem? hn)
      have htk : Hid ((ns.take (k + 1)).all (fun n => !oddI n) = !oddI n) := Lib.hid (by
        rw [List.take_add_one, hn, List.all_append, hall'.out]; simp)
      have n1 : 0 < N := by omega
      clear hn hc
      by_cases h0 : n < 0
      · obtain rfl : R = false := by
          rw [← hR'.out, List.all_eq_false]
          exact ⟨n, hmem.out, by unfold oddI; simp [h0]⟩
        go_wp2
        go_ret
        exact ⟨rfl, hB2.out⟩
      · by_cases h1 : 4611686018427387904 ≤ n
        · obtain rfl : R = false := by
            rw [← hR'.out, List.all_eq_false]
            exact ⟨n, hmem.out, by unfold oddI; simp [h1]⟩
          go_wp2
          go_ret
          exact ⟨rfl, hB2.out⟩
        · have ho : oddI n = false := oddI_no.2 (by omega)
          rw [ho] at htk
          clear ho
          go_wp2
          go_roundw
          case rel => exact ⟨k + 1, by go_num, by omega, htk.out, trivial⟩
          case measure => simp [intOf]; omega
    · obtain rfl : k = N := by omega
      obtain rfl : R = true := by
        rw [← hR'.out]
        have := hall'.out
        rwa [List.take_of_length_le (Nat.le_of_eq hN'.out)] at this
      go_wp2
      go_ret
      exact ⟨rfl, hB2.out⟩
/-- the document's sum of bytes: some number -/
def SumSome (w : World) (e : Ending) (w' : World) : Prop := ∃ n : Nat, e = .returned (.int .u32 n) ∧ n < 4294967296 ∧ w = w'
/-- a frame of bytes, with some sum -/
def SealSome (w : World) (l : List UInt8) (e : Ending) (w' : World) : Prop := ∃ n : Nat, n < 4294967296 ∧ MadeB w (be32 l.length ++ be32 n ++ l) e w'
end Go.Proofs.YtabcdodjkfknlaaGreatDoor
namespace Go.Proofs.YtabcdodjkfknlaaGreatDoor
open Go.RowKit
attribute [local go_sem ↓] dapp_op dslK_op
theorem xor_u32_nat (a b : Nat) (ha : a < 4294967296) (hb : b < 4294967296) : bits .xor .u32 (a : Int) (b : Int) = ((a ^^^ b : Nat) : Int) := by
  have hx : a ^^^ b < 2 ^ 32 := Nat.xor_lt_two_pow (by omega) (by omega)
  have h1 : (BitVec.ofInt 32 (a : Int)).toNat = a := by rw [BitVec.ofInt_natCast, BitVec.toNat_ofNat]; exact Nat.mod_eq_of_lt (by omega)
  have h2 : (BitVec.ofInt 32 (b : Int)).toNat = b := by rw [BitVec.ofInt_natCast, BitVec.toNat_ofNat]; exact Nat.mod_eq_of_lt (by omega)
  show IntKind.u32.wrap ((BitVec.ofInt 32 (a : Int) ^^^ BitVec.ofInt 32 (b : Int)).toNat : Int) = _
  rw [BitVec.toNat_xor, h1, h2, IntKind.wrap_u32]
  omega
theorem xor_u8_nat (a b : Nat) (ha : a < 256) (hb : b < 256) : bits .xor .u8 (a : Int) (b : Int) = ((a ^^^ b : Nat) : Int) := by
  have hx : a ^^^ b < 2 ^ 8 := Nat.xor_lt_two_pow (by omega) (by omega)
  have h1 : (BitVec.ofInt 8 (a : Int)).toNat = a := by rw [BitVec.ofInt_natCast, BitVec.toNat_ofNat]; exact Nat.mod_eq_of_lt (by omega)
  have h2 : (BitVec.ofInt 8 (b : Int)).toNat = b := by rw [BitVec.ofInt_natCast, BitVec.toNat_ofNat]; exact Nat.mod_eq_of_lt (by omega)
  show IntKind.u8.wrap ((BitVec.ofInt 8 (a : Int) ^^^ BitVec.ofInt 8 (b : Int)).toNat : Int) = _
  rw [BitVec.toNat_xor, h1, h2, IntKind.wrap_u8]
  omega
theorem and_u32_nat (a b : Nat) (ha : a < 4294967296) (hb : b < 4294967296) : bits .and .u32 (a : Int) (b : Int) = ((a &&& b : Nat) : Int) :=
  (bits_nat .u32 32 (by decide) (fun n h0 h1 => by rw [IntKind.wrap_u32]; omega) a b (by omega) (by omega)).1
/-- a bit's step -/
def bitS (m : Nat) : Nat := if m % 2 = 1 then (m / 2) ^^^ 3988292384 else m / 2
def bitIt : Nat → Nat → Nat
  | 0, m => m
  | k + 1, m => bitS (bitIt k m)
theorem bitS_lt {m : Nat} (h : m < 4294967296) : bitS m < 4294967296 := by
  unfold bitS
  split
  · exact Nat.xor_lt_two_pow (n := 32) (by omega) (by decide)
  · omega
theorem bitIt_lt {m : Nat} (h : m < 4294967296) : ∀ k, bitIt k m < 4294967296
  | 0 => h
  | k + 1 => bitS_lt (bitIt_lt h k)
theorem crcBit_nat {m : Nat} (h : m < 4294967296) : crcBit (m : Int) = (bitS m : Int) := by
  unfold crcBit bitS
  have e1 : bits .and .u32 (m : Int) 1 = ((m % 2 : Nat) : Int) := by
    have := and_u32_nat m 1 h (by decide)
    rw [Nat.and_one_is_mod] at this
    exact this
  have e2 : ((m : Int) / 2) = ((m / 2 : Nat) : Int) := by omega
  rw [e1, e2]
  by_cases ho : m % 2 = 1
  · rw [if_pos ho, ho]
    have e3 : bits .and .u32 3988292384 (-((1 : Nat) : Int) % 4294967296) = ((3988292384 : Nat) : Int) := by
      have := and_u32_nat 3988292384 4294967295 (by decide) (by decide)
      rw [show ((3988292384 &&& 4294967295 : Nat)) = 3988292384 by decide] at this
      exact this
    rw [e3]
    exact xor_u32_nat _ _ (by omega) (by decide)
  · have h0 : m % 2 = 0 := by omega
    rw [if_neg ho, h0]
    have e3 : bits .and .u32 3988292384 (-((0 : Nat) : Int) % 4294967296) = ((0 : Nat) : Int) := by
      have := and_u32_nat 3988292384 0 (by decide) (by decide)
      rw [Nat.and_zero] at this
      exact this
    rw [e3, xor_u32_nat _ _ (by omega) (by decide), Nat.xor_zero]
theorem crcIt_nat {m : Nat} (h : m < 4294967296) : ∀ k, crcIt k (m : Int) = (bitIt k m : Int)
  | 0 => rfl
  | k + 1 => by
    show crcBit (crcIt k (m : Int)) = _
    rw [crcIt_nat h k, crcBit_nat (bitIt_lt h k)]
    rfl
theorem bitS_lin (a b : Nat) : bitS (a ^^^ b) = bitS a ^^^ bitS b := by
  have hd : (a ^^^ b) / 2 = a / 2 ^^^ b / 2 := Nat.xor_div_two
  have hm := @Nat.xor_mod_two_eq_one a b
  unfold bitS
  rw [hd]
  by_cases ha : a % 2 = 1
  · by_cases hb : b % 2 = 1
    · rw [if_pos ha, if_pos hb, if_neg (by rw [hm]; simp [ha, hb])]
      rw [Nat.xor_assoc, Nat.xor_comm 3988292384, Nat.xor_assoc (b / 2), Nat.xor_self, Nat.xor_zero]
    · rw [if_pos ha, if_neg hb, if_pos (by rw [hm]; simp [ha, hb])]
      rw [Nat.xor_assoc, Nat.xor_assoc, Nat.xor_comm 3988292384]
  · by_cases hb : b % 2 = 1
    · rw [if_neg ha, if_pos hb, if_pos (by rw [hm]; simp [ha, hb]), Nat.xor_assoc]
    · rw [if_neg ha, if_neg hb, if_neg (by rw [hm]; simp [ha, hb])]
theorem bitIt_lin (a b : Nat) : ∀ k, bitIt k (a ^^^ b) = bitIt k a ^^^ bitIt k b
  | 0 => rfl
  | k + 1 => by
    show bitS (bitIt k (a ^^^ b)) = bitS (bitIt k a) ^^^ bitS (bitIt k b)
    rw [bitIt_lin a b k, bitS_lin]
theorem bitS_two (x : Nat) : bitS (2 * x) = x := by
  unfold bitS
  rw [if_neg (by omega)]
  omega
theorem bitIt_byte (h : Nat) : bitIt 8 (256 * h) = h := by
  show bitS (bitS (bitS (bitS (bitS (bitS (bitS (bitS (256 * h)))))))) = h
  rw [show 256 * h = 2 * (2 * (2 * (2 * (2 * (2 * (2 * (2 * h))))))) by omega]
  simp only [bitS_two]
theorem xor_add (h l : Nat) (hl : l < 256) : (256 * h) ^^^ l = 256 * h + l := by
  have := Nat.two_pow_add_eq_or_of_lt (i := 8) hl h
  rw [show 256 * h = 2 ^ 8 * h by rfl, this]
  apply Nat.eq_of_testBit_eq
  intro i
  simp only [Nat.testBit_xor, Nat.testBit_or, Nat.testBit_two_pow_mul]
  by_cases hi : 8 ≤ i
  · have : l.testBit i = false := Nat.testBit_lt_two_pow (Nat.lt_of_lt_of_le hl (Nat.pow_le_pow_right (show 0 < 2 by decide) hi))
    simp [this]
  · simp [hi]
/-- eight bits' steps are one step by the table -/
theorem sumStep_bits {n : Nat} (h : n < 4294967296) (c : UInt8) : sumStep (n : Int) c = (bitIt 8 (n ^^^ c.toNat) : Int) := by
  have hc := c.toNat_lt
  have e1 : n = 256 * (n / 256) ^^^ (n % 256) := by rw [xor_add _ _ (Nat.mod_lt _ (by decide))]; omega
  have e2 : n ^^^ c.toNat = 256 * (n / 256) ^^^ (n % 256 ^^^ c.toNat) := by
    conv => lhs; rw [e1]
    rw [Nat.xor_assoc]
  have hl : n % 256 ^^^ c.toNat < 2 ^ 8 := Nat.xor_lt_two_pow (by omega) (by omega)
  rw [e2, bitIt_lin, bitIt_byte]
  unfold sumStep crcTab
  rw [show ((n : Int) % 256) = ((n % 256 : Nat) : Int) by omega, show ((n : Int) / 256) = ((n / 256 : Nat) : Int) by omega, xor_u8_nat _ _ (by omega) (by omega), Int.toNat_natCast, crcIt_nat (by omega)]
  exact xor_u32_nat _ _ (by omega) (bitIt_lt (by omega) 8)
theorem sumOf_nat {l : List UInt8} {n : Nat} (h : (n : Int) = sumL l) (hn : n < 4294967296) : bits .xor .u32 (n : Int) 4294967295 = (sumOf l : Int) := by
  have e := xor_u32_nat n 4294967295 hn (by decide)
  have e2 := xor_u32_nat 4294967295 n (by decide) hn
  unfold sumOf
  rw [← h, show IntKind.u32.max = ((4294967295 : Nat) : Int) by decide, e2, Int.toNat_natCast, Nat.xor_comm]
  exact e
set_option maxHeartbeats 4000000 in
set_option maxRecDepth 100000 in
theorem sum03_is (v : Value) (l : List UInt8) (w : World) (hv : Bytes w v l) (hl : l.length ≤ 100000000) :
    Calls Tryz.prog 54 #[v] w fun e w' => e = .returned (.int .u32 (sumOf l)) ∧ w' = w := by
  obtain ⟨p, c, rfl⟩ := hv.slice
  have hv' := Lib.hid hv
  clear hv
  obtain ⟨L, hL⟩ : ∃ L, l.length = L := ⟨_, rfl⟩
  rw [hL] at hv' hl ⊢
  have hL' := Lib.hid hL
  clear hL
  go_enter Tryz.func54, Tryz.ntmps54
  go_wp2
  go_loopw [3, 5, 6, 7, 10] (fun s _ _ _ i wr => ∃ k n : Nat, i = .int .i64 k ∧ k ≤ L ∧ s = .int .u32 n ∧ n < 4294967296 ∧ (n : Int) = sumL (l.take k) ∧ w = wr) (fun _ _ _ _ i _ => L - (intOf i).toNat)
  case atStart => exact ⟨0, 4294967295, rfl, Nat.zero_le _, rfl, by decide, rfl, rfl⟩
  case round =>
    obtain ⟨k, n, rfl, hk, rfl, hn, hsum, rfl⟩ := hrel
    have hsum' := Lib.hid hsum
    clear hsum
    by_cases hlt : k < L
    · obtain ⟨x, hx⟩ : ∃ x, l[k]? = some x := ⟨_, List.getElem?_eq_getElem (by rw [hL'.out]; exact hlt)⟩
      obtain ⟨g, o, rfl, hc⟩ := hv'.out.cellAt hx
      have hxl := x.toNat_lt
      obtain ⟨m0, hm0⟩ : ∃ m, n ^^^ x.toNat = m := ⟨_, rfl⟩
      have hm0l : m0 < 4294967296 := by rw [← hm0]; exact Nat.xor_lt_two_pow (n := 32) (by omega) (by omega)
      have hm1 : bits .xor .u32 (n : Int) (x.toNat : Int) = (m0 : Int) := by rw [← hm0]; exact xor_u32_nat _ _ hn (by omega)
      have hstep : Hid ((bitIt 8 m0 : Int) = sumL (l.take (k + 1))) := Lib.hid (by rw [sumL_take hx, ← hsum'.out, sumStep_bits hn, hm0])
      have n1 : 0 < L := by omega
      clear hx hm0
      go_wp2
      go_loopw [3, 6, 7] (fun s i _ wr => ∃ j m : Nat, i = .int .i64 j ∧ j ≤ 8 ∧ s = .int .u32 m ∧ m < 4294967296 ∧ m = bitIt j m0 ∧ w = wr) (fun _ i _ _ => 8 - (intOf i).toNat)
      case atStart => exact ⟨0, m0, rfl, by omega, rfl, hm0l, rfl, rfl⟩
      case round =>
        obtain ⟨j, m, rfl, hj, rfl, hm, hmj, rfl⟩ := hrel
        have hmj' := Lib.hid hmj
        clear hm1 hmj
        by_cases hjl : j < 8
        · have hd3 : decide (j < 8) = true := by simpa using hjl
          have hnx : bitIt (j + 1) m0 = bitS m := by rw [hmj'.out]; rfl
          by_cases ho : m % 2 = 1
          · obtain ⟨m1, hm1⟩ : ∃ m1, (m / 2) ^^^ 3988292384 = m1 := ⟨_, rfl⟩
            have hm2 : bits .xor .u32 ((m : Int) / 2) 3988292384 = (m1 : Int) := by
              rw [← hm1, show ((m : Int) / 2) = ((m / 2 : Nat) : Int) by omega]
              exact xor_u32_nat _ _ (by omega) (by decide)
            have hm3 : m1 = bitIt (j + 1) m0 := by rw [hnx]; unfold bitS; rw [if_pos ho, hm1]
            have hm3' := Lib.hid hm3
            have hm1l : m1 < 4294967296 := by rw [hm3, hnx]; exact bitS_lt hm
            have t1 : ((m : Int) % 2 == 1) = true := by simp; omega
            have t2 : (m % 2 == 1) = true := by simpa using ho
            clear hnx hm3 hm1
            go_wp2
            go_roundw
            case rel => exact ⟨j + 1, m1, by go_num, by omega, rfl, hm1l, hm3'.out, trivial⟩
            case measure => simp [intOf]; omega
          · have t1 : ((m : Int) % 2 == 1) = false := by simp; omega
            have t2 : (m % 2 == 1) = false := by simpa using ho
            have hm3 := Lib.hid (show m / 2 = bitIt (j + 1) m0 by rw [hnx]; unfold bitS; rw [if_neg ho])
            clear hnx
            go_wp2
            go_roundw
            case rel => exact ⟨j + 1, m / 2, by go_num, by omega, by go_num, by omega, hm3.out, trivial⟩
            case measure => simp [intOf]; omega
        · obtain rfl : j = 8 := by omega
          go_wp2
          go_roundw
          case rel => exact ⟨k + 1, m, by go_num, by omega, rfl, hm, by rw [hmj'.out]; exact hstep.out, trivial⟩
          case measure => simp [intOf]; omega
    · obtain rfl : k = L := by omega
      rw [List.take_of_length_le (Nat.le_of_eq hL'.out)] at hsum'
      have hfin := sumOf_nat hsum'.out hn
      have hsl := sumOf_lt l
      obtain ⟨S, hS⟩ : ∃ S, sumOf l = S := ⟨_, rfl⟩
      rw [hS] at hfin hsl
      have hS' := Lib.hid hS
      clear hS
      go_wp2
      go_ret
      exact ⟨by rw [hS'.out]; rfl, rfl⟩
end Go.Proofs.YtabcdodjkfknlaaGreatDoor
