/- Plain: the document's quota, and how the program's tells the same. -/
import Derived.Test.YtgclancneohpbaaQt
namespace Go.Proofs.Ytgclancneohpbaa
structure RQ where
  (rate most now : Nat)
  cs : List (ByteArray × Nat)
def nm (c : ByteArray × Nat) : List UInt8 := c.1.data.toList
def RQ.more (r : RQ) (gone : Nat) : Nat := if r.rate = 0 then 0 else if gone ≤ r.most / r.rate then gone * r.rate else r.most
def RQ.grow (r : RQ) (gone : Nat) (c : ByteArray × Nat) : ByteArray × Nat := (c.1, min r.most (c.2 + r.more gone))
def RQ.tick (r : RQ) (t : Nat) : RQ := if t ≤ r.now then r else { r with now := t, cs := r.cs.map (r.grow (t - r.now)) }
def look (cs : List (ByteArray × Nat)) (k : List UInt8) : Option Nat := (cs.find? fun c => nm c == k).map (·.2)
theorem look_nil (k : List UInt8) : look [] k = none := rfl
theorem look_cons (c : ByteArray × Nat) (cs : List (ByteArray × Nat)) (k : List UInt8) : look (c :: cs) k = if nm c = k then some c.2 else look cs k := by
  unfold look
  rw [List.find?_cons]
  by_cases h : nm c = k
  · simp [h]
  · have hb : (nm c == k) = false := beq_eq_false_iff_ne.2 h
    rw [if_neg h, hb]
def sorted (cs : List (ByteArray × Nat)) : Prop := (cs.map nm).Pairwise (· < ·)
structure Sim (q : Qt) (r : RQ) : Prop where
  ok : q.ok
  rate : q.rate = r.rate
  most : q.most = r.most
  now : q.now = r.now
  sorted : sorted r.cs
  get : ∀ k, look r.cs k = (q.f k).map fun p => q.fill p q.now
theorem look_map (g : ByteArray × Nat → ByteArray × Nat) (h : Nat → Nat) (hg : ∀ c, g c = (c.1, h c.2)) (k : List UInt8) : ∀ cs : List (ByteArray × Nat), look (cs.map g) k = (look cs k).map h
  | [] => rfl
  | c :: cs => by
    rw [List.map_cons, look_cons, look_cons, look_map g h hg k cs, hg c]
    show (if nm c = k then _ else _) = _
    by_cases e : nm c = k
    · rw [if_pos e, if_pos e]; rfl
    · rw [if_neg e, if_neg e]
theorem nm_map (g : ByteArray × Nat → ByteArray × Nat) (h : Nat → Nat) (hg : ∀ c, g c = (c.1, h c.2)) (cs : List (ByteArray × Nat)) : (cs.map g).map nm = cs.map nm := by
  rw [List.map_map]
  exact List.map_congr_left fun c _ => by show nm (g c) = nm c; rw [hg c]; rfl
theorem fill_tick {q : Qt} {r : RQ} (hr : q.rate = r.rate) (hm : q.most = r.most) {p : Nat × Nat} {n t : Nat} (h1 : p.2 ≤ n) (h2 : n < t) : q.fill p t = min r.most (q.fill p n + r.more (t - n)) := by
  have e : (t - p.2) * q.rate = (n - p.2) * q.rate + (t - n) * q.rate := by rw [← Nat.add_mul]; congr 1; omega
  unfold Qt.fill RQ.more
  rw [e, hr, hm]
  by_cases h0 : r.rate = 0
  · rw [if_pos h0, h0]; simp only [Nat.mul_zero, Nat.add_zero]; omega
  · rw [if_neg h0]
    by_cases hg : t - n ≤ r.most / r.rate
    · rw [if_pos hg]; omega
    · rw [if_neg hg]
      have : r.most < (t - n) * r.rate := by
        have h3 : r.most / r.rate + 1 ≤ t - n := by omega
        have h4 : (r.most / r.rate + 1) * r.rate ≤ (t - n) * r.rate := Nat.mul_le_mul_right _ h3
        have h5 : r.most < (r.most / r.rate + 1) * r.rate := Nat.lt_mul_of_div_lt (by omega) (by omega)
        omega
      omega
theorem Sim.tick {q : Qt} {r : RQ} (h : Sim q r) {t : Nat} (ht : t < 18446744073709551616) : Sim (q.left t) (r.tick t) := by
  unfold RQ.tick
  by_cases hle : t ≤ r.now
  · rw [if_pos hle]
    have hn : max q.now t = q.now := by have := h.now; omega
    exact ⟨Qt.left_ok h.ok ht, h.rate, h.most, hn.trans h.now, h.sorted, fun k => by show look r.cs k = (q.f k).map fun p => q.fill p (max q.now t); rw [hn]; exact h.get k⟩
  · rw [if_neg hle]
    have hn : max q.now t = t := by have := h.now; omega
    refine ⟨Qt.left_ok h.ok ht, h.rate, h.most, hn, ?_, fun k => ?_⟩
    · show ((r.cs.map (r.grow (t - r.now))).map nm).Pairwise _
      rw [nm_map (r.grow (t - r.now)) (fun x => min r.most (x + r.more (t - r.now))) (fun _ => rfl)]
      exact h.sorted
    · show look (r.cs.map (r.grow (t - r.now))) k = (q.f k).map fun p => q.fill p (max q.now t)
      rw [look_map (r.grow (t - r.now)) (fun x => min r.most (x + r.more (t - r.now))) (fun _ => rfl), h.get k, hn]
      cases hf : q.f k with
      | none => rfl
      | some p =>
        show some _ = some _
        have h1 := (h.ok.each k p hf).2
        show some (min r.most (q.fill p q.now + r.more (t - r.now))) = some (q.fill p t)
        have h2 : q.now < t := by have := h.now; omega
        rw [fill_tick (q := q) (r := r) (p := p) (n := q.now) (t := t) h.rate h.most h1 h2, h.now]
/-- what a client has, as both tell it -/
theorem Sim.has {q : Qt} {r : RQ} (h : Sim q r) (k : List UInt8) : q.has k q.now = (look r.cs k).getD r.most := by
  unfold Qt.has
  rw [h.get k, ← h.most]
  cases q.f k <;> rfl
/-- a client put in, in order -/
def ins (x : ByteArray × Nat) : List (ByteArray × Nat) → List (ByteArray × Nat)
  | [] => [x]
  | c :: cs => if nm c < nm x then c :: ins x cs else x :: c :: cs
theorem ins_at (x : ByteArray × Nat) : ∀ (cs : List (ByteArray × Nat)) (i : Nat), i ≤ cs.length → (∀ j c, j < i → cs[j]? = some c → nm c < nm x) → (∀ c, cs[i]? = some c → ¬ nm c < nm x) → cs.take i ++ x :: cs.drop i = ins x cs ∧ (ins x cs)[i]? = some x
  | [], i, hi, _, _ => by
    obtain rfl : i = 0 := by simpa using hi
    exact ⟨rfl, rfl⟩
  | c :: cs, 0, _, _, h2 => by
    have := h2 c rfl
    unfold ins
    rw [if_neg this]
    exact ⟨rfl, rfl⟩
  | c :: cs, i + 1, hi, h1, h2 => by
    have h0 := h1 0 c (by omega) rfl
    obtain ⟨e1, e2⟩ := ins_at x cs i (by simpa using hi) (fun j d hj hd => h1 (j + 1) d (by omega) (by simpa using hd)) (fun d hd => h2 d (by simpa using hd))
    unfold ins
    rw [if_pos h0]
    exact ⟨by rw [List.take_succ_cons, List.drop_succ_cons, List.cons_append, e1], by simpa using e2⟩
theorem look_ins (x : ByteArray × Nat) (k : List UInt8) : ∀ cs : List (ByteArray × Nat), (∀ c ∈ cs, nm c ≠ nm x) → look (ins x cs) k = if nm x = k then some x.2 else look cs k
  | [], _ => by unfold ins; rw [look_cons]
  | c :: cs, h => by
    unfold ins
    have hc := h c List.mem_cons_self
    by_cases hl : nm c < nm x
    · rw [if_pos hl, look_cons, look_cons, look_ins x k cs (fun d hd => h d (List.mem_cons_of_mem _ hd))]
      by_cases e : nm c = k
      · rw [if_pos e, if_pos e, if_neg (fun e2 => hc (e.trans e2.symm))]
      · rw [if_neg e, if_neg e]
    · rw [if_neg hl, look_cons]
theorem mem_ins (x d : ByteArray × Nat) : ∀ cs : List (ByteArray × Nat), d ∈ ins x cs → d = x ∨ d ∈ cs
  | [], h => by unfold ins at h; simp at h; exact .inl h
  | c :: cs, h => by
    unfold ins at h
    split at h
    · rcases List.mem_cons.1 h with rfl | h
      · exact .inr List.mem_cons_self
      · rcases mem_ins x d cs h with h | h
        · exact .inl h
        · exact .inr (List.mem_cons_of_mem _ h)
    · rcases List.mem_cons.1 h with h | h
      · exact .inl h
      · exact .inr h
theorem sorted_ins (x : ByteArray × Nat) : ∀ cs : List (ByteArray × Nat), sorted cs → (∀ c ∈ cs, nm c ≠ nm x) → sorted (ins x cs)
  | [], _, _ => by unfold ins sorted; simp
  | c :: cs, hs, h => by
    have hs' := hs
    unfold sorted at hs
    rw [List.map_cons, List.pairwise_cons] at hs
    have hc := h c List.mem_cons_self
    unfold ins
    by_cases hl : nm c < nm x
    · rw [if_pos hl]
      unfold sorted
      rw [List.map_cons, List.pairwise_cons]
      refine ⟨fun y hy => ?_, sorted_ins x cs hs.2 (fun d hd => h d (List.mem_cons_of_mem _ hd))⟩
      obtain ⟨d, hd, rfl⟩ := List.mem_map.1 hy
      rcases mem_ins x d cs hd with rfl | hd
      · exact hl
      · exact hs.1 _ (List.mem_map_of_mem hd)
    · rw [if_neg hl]
      have hx : nm x < nm c := by
        rcases List.le_total (nm c) (nm x) with h1 | h1
        · rcases List.le_iff_lt_or_eq.1 h1 with h1 | h1
          · exact absurd h1 hl
          · exact absurd h1 hc
        · rcases List.le_iff_lt_or_eq.1 h1 with h1 | h1
          · exact h1
          · exact absurd h1.symm hc
      unfold sorted
      rw [List.map_cons, List.pairwise_cons]
      refine ⟨fun y hy => ?_, hs'⟩
      rw [List.map_cons] at hy
      rcases List.mem_cons.1 hy with rfl | hy
      · exact hx
      · exact List.lt_trans hx (hs.1 _ hy)
/-- a client's share turned -/
theorem look_set (h : Nat) (k : List UInt8) : ∀ (cs : List (ByteArray × Nat)) (i : Nat) (c : ByteArray × Nat), sorted cs → cs[i]? = some c → look (cs.set i (c.1, h)) k = if nm c = k then some h else look cs k
  | [], i, c, _, hc => by simp at hc
  | d :: cs, 0, c, _, hc => by
    obtain rfl : d = c := by simpa using hc
    rw [List.set_cons_zero, look_cons, look_cons]
    show (if nm d = k then _ else _) = _
    by_cases e : nm d = k
    · rw [if_pos e, if_pos e]
    · rw [if_neg e, if_neg e, if_neg e]
  | d :: cs, i + 1, c, hs, hc => by
    unfold sorted at hs
    rw [List.map_cons, List.pairwise_cons] at hs
    have hc' : cs[i]? = some c := by simpa using hc
    have hlt : nm d < nm c := hs.1 _ (List.mem_map_of_mem (List.mem_of_getElem? hc'))
    rw [List.set_cons_succ, look_cons, look_cons, look_set h k cs i c hs.2 hc']
    by_cases e : nm d = k
    · rw [if_pos e, if_pos e, if_neg (fun e2 => by rw [e, ← e2] at hlt; exact List.lt_irrefl _ hlt)]
    · rw [if_neg e, if_neg e]
theorem nm_set (h : Nat) : ∀ (cs : List (ByteArray × Nat)) (i : Nat) (c : ByteArray × Nat), cs[i]? = some c → (cs.set i (c.1, h)).map nm = cs.map nm
  | [], i, c, hc => by simp at hc
  | d :: cs, 0, c, hc => by
    obtain rfl : d = c := by simpa using hc
    rfl
  | d :: cs, i + 1, c, hc => by
    have hc' : cs[i]? = some c := by simpa using hc
    rw [List.set_cons_succ, List.map_cons, List.map_cons, nm_set h cs i c hc']
theorem look_none {cs : List (ByteArray × Nat)} {k : List UInt8} (h : ∀ c ∈ cs, nm c ≠ k) : look cs k = none := by
  induction cs with
  | nil => rfl
  | cons c cs ih => rw [look_cons, if_neg (h c List.mem_cons_self), ih (fun d hd => h d (List.mem_cons_of_mem _ hd))]
theorem look_some : ∀ {cs : List (ByteArray × Nat)} {i : Nat} {c : ByteArray × Nat}, sorted cs → cs[i]? = some c → look cs (nm c) = some c.2
  | [], i, c, _, hc => by simp at hc
  | d :: cs, 0, c, _, hc => by
    obtain rfl : d = c := by simpa using hc
    rw [look_cons, if_pos rfl]
  | d :: cs, i + 1, c, hs, hc => by
    unfold sorted at hs
    rw [List.map_cons, List.pairwise_cons] at hs
    have hc' : cs[i]? = some c := by simpa using hc
    have hlt : nm d < nm c := hs.1 _ (List.mem_map_of_mem (List.mem_of_getElem? hc'))
    rw [look_cons, if_neg (fun e => by rw [e] at hlt; exact List.lt_irrefl _ hlt)]
    exact look_some hs.2 hc'
/-- what 'at' leaves: the client's place, and the clients with it -/
structure AtIs (cs : List (ByteArray × Nat)) (most : Nat) (k : List UInt8) (cs' : List (ByteArray × Nat)) (i : Nat) (c : ByteArray × Nat) : Prop where
  sorted : sorted cs'
  here : cs'[i]? = some c
  name : nm c = k
  has : c.2 = (look cs k).getD most
  look : ∀ k', look cs' k' = if k = k' then some c.2 else look cs k'
theorem at_found {cs : List (ByteArray × Nat)} (most : Nat) {i : Nat} {c : ByteArray × Nat} (hs : sorted cs) (hc : cs[i]? = some c) : AtIs cs most (nm c) cs i c :=
  ⟨hs, hc, rfl, by rw [look_some hs hc]; rfl, fun k' => by
    by_cases e : nm c = k'
    · subst e; rw [if_pos rfl, look_some hs hc]
    · rw [if_neg e]⟩
theorem at_put {cs : List (ByteArray × Nat)} (most : Nat) {i : Nat} (s : ByteArray) (hs : sorted cs) (hn : ∀ c ∈ cs, nm c ≠ s.data.toList) (hi : i ≤ cs.length) (h1 : ∀ j c, j < i → cs[j]? = some c → nm c < s.data.toList) (h2 : ∀ c, cs[i]? = some c → ¬ nm c < s.data.toList) :
    AtIs cs most s.data.toList (cs.take i ++ (s, most) :: cs.drop i) i (s, most) := by
  obtain ⟨e1, e2⟩ := ins_at (s, most) cs i hi h1 h2
  rw [e1]
  exact ⟨sorted_ins _ cs hs hn, e2, rfl, by rw [look_none hn]; rfl, fun k' => look_ins (s, most) k' cs hn⟩
/-- behind a taking -/
theorem Sim.take {q : Qt} {r : RQ} (h : Sim q r) {s : List UInt8} {n t : Nat} (ht : t < 18446744073709551616) {cs' : List (ByteArray × Nat)} {i : Nat} {c : ByteArray × Nat} (hA : AtIs (r.tick t).cs r.most s cs' i c) :
    q.enough s n t = decide (n ≤ c.2) ∧ Sim (q.take s n t) { r.tick t with cs := cs'.set i (c.1, if n ≤ c.2 then c.2 - n else c.2) } := by
  have h1 := h.tick ht
  have hm : (r.tick t).most = r.most := by unfold RQ.tick; split <;> rfl
  have hh : (q.left t).has s (max q.now t) = c.2 := by
    have := h1.has s
    rw [hm] at this
    exact this.trans hA.has.symm
  have hr : q.rest s n t = if n ≤ c.2 then c.2 - n else c.2 := by unfold Qt.rest; rw [hh]
  refine ⟨by unfold Qt.enough; rw [hh], Qt.take_ok h.ok s n ht, h1.rate, h1.most, h1.now, ?_, fun k => ?_⟩
  · show ((cs'.set i (c.1, _)).map nm).Pairwise _
    rw [nm_set _ cs' i c hA.here]
    exact hA.sorted
  · show look (cs'.set i (c.1, _)) k = ((if k = s then some (q.rest s n t, max q.now t) else q.f k)).map fun p => q.fill p (max q.now t)
    rw [look_set _ k cs' i c hA.sorted hA.here, hA.name, hA.look k]
    by_cases e : s = k
    · subst e
      rw [if_pos rfl, if_pos rfl]
      show some _ = some (min q.most (q.rest s n t + (max q.now t - max q.now t) * q.rate))
      rw [hr, Nat.sub_self, Nat.zero_mul, Nat.add_zero]
      have hle : c.2 ≤ q.most := by rw [← hh]; exact (q.left t).has_le s _
      congr 1
      split <;> omega
    · rw [if_neg e, if_neg e, if_neg (fun e2 => e e2.symm)]
      exact h1.get k
end Go.Proofs.Ytgclancneohpbaa
