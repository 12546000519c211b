/- Walks: the program's disk: Create. Bytes in memory; a file of a disk that is turned. Walks: the program's disk: Fuse, Used, Sync. Walks: the program's disk: Read, Append. -/
import Derived.Test.YtabcdodjkfknlaaGreatDoorPN02
import Derived.Laws.OwnMore
namespace Go.Proofs.YtabcdodjkfknlaaGreatDoor
open Go.RowKit Go.Maps
/-- what a call leaves of a disk -/
def Goes (w : World) (B D : Nat) (O : Nat → Prop) (k' : Dk) (w' : World) : Prop := (∃ O', Disk w' B D O' k' ∧ ∀ j, O' j → O j ∨ w.heap.size ≤ j) ∧ Keeps O w w'
theorem Goes.same {w w' : World} {B D : Nat} {O : Nat → Prop} {k : Dk} (h : Disk w' B D O k) (hk : Keeps O w w') : Goes w B D O k w' := ⟨⟨O, h, fun _ h => .inl h⟩, hk⟩
theorem Goes.at {w w1 w' : World} {B D : Nat} {O : Nat → Prop} {k : Dk} (hb : Below w.heap.size w w1) (h : Goes w1 B D O k w') : Goes w B D O k w' := by
  obtain ⟨⟨O', h1, h2⟩, h3⟩ := h
  have := hb.size
  exact ⟨⟨O', h1, fun j hj => (h2 j hj).imp id (fun h => by omega)⟩, (Keeps.of_below hb).trans h3⟩
def Dk.upd (k : Dk) (f : Nat) (x : File) : Dk := { k with file := fun j => if j = f then some x else k.file j }
theorem Dk.upd_live (k : Dk) (f : Nat) (x : File) (p : Nat) (h : (k.file p).isSome = true) : ((k.upd f x).file p).isSome = true := by
  unfold Dk.upd; simp only; split
  · rfl
  · exact h
theorem Dk.ok.upd {k : Dk} (hk : k.ok) (f : Nat) (x : File) (hx : x.data.length ≤ k.room * 65536) : (k.upd f x).ok := by
  refine ⟨hk.cap, hk.fuse, hk.used, fun s p h => k.upd_live f x p (hk.live s p h), fun s p h => k.upd_live f x p (hk.slive s p h), fun a ha => ⟨(hk.acts a ha).1, fun p h => k.upd_live f x p ((hk.acts a ha).2 p h)⟩, fun p y h => ?_⟩
  unfold Dk.upd at h
  simp only at h
  split at h
  · obtain rfl := Option.some.inj h; exact hx
  · exact hk.small p y h
theorem Disk.newfile {w : World} {B D : Nat} {O : Nat → Prop} {k : Dk} (h : Disk w B D O k) (hB : B ≤ w.heap.size) :
    Disk (w.alloc (.cells #[.slice none 0 0, .int .i64 0] 101)) B D (fun j => O j ∨ j = w.heap.size) (k.upd w.heap.size ⟨[], 0⟩) := by
  have hlt := h.lt
  obtain ⟨bd, bs, n, va, rows, hd, hn, rfl⟩ := h
  have hk : Keeps (fun _ => False) w (w.alloc (.cells #[.slice none 0 0, .int .i64 0] 101)) := (Keeps.refl _ w).alloc _
  have h1 := hd.keeps hk (fun _ _ => id)
  have hf : ∀ f x, k.file f = some x → f ≠ w.heap.size := fun f x hf e => by
    have := hd.from_ f (.inr (.inr (.inr (.inr ⟨f, x, hf, .inl rfl⟩))))
    omega
  have hu : ∀ j x, (k.upd w.heap.size ⟨[], 0⟩).file j = some x → (j = w.heap.size ∧ x = ⟨[], 0⟩) ∨ (j ≠ w.heap.size ∧ k.file j = some x) := by
    intro j x hj
    unfold Dk.upd at hj
    simp only at hj
    split at hj
    · rename_i e; exact .inl ⟨e, (Option.some.inj hj).symm⟩
    · rename_i e; exact .inr ⟨e, hj⟩
  refine ⟨bd, bs, n, va, fun j => if j = w.heap.size then .slice none 0 0 else rows j, ⟨h1.blk, h1.dir, h1.safe, h1.two, h1.acts, ?_, ?_, h1.base⟩, hn, ?_⟩
  · intro f x hx
    rcases hu f x hx with ⟨rfl, rfl⟩ | ⟨hne, hx⟩
    · rw [if_pos rfl]
      exact ⟨hB, Blk.new _ _ _, World.ownsRow_nil _ _ _ _, Nat.le_refl _⟩
    · rw [if_neg hne]
      exact h1.file f x hx
  · intro f f' x x' b hx hx' hb hb'
    rcases hu f x hx with ⟨rfl, rfl⟩ | ⟨hne, hx⟩
    · rw [if_pos rfl] at hb; cases hb
    · rcases hu f' x' hx' with ⟨rfl, rfl⟩ | ⟨hne', hx'⟩
      · rw [if_pos rfl] at hb'; cases hb'
      · rw [if_neg hne] at hb
        rw [if_neg hne'] at hb'
        exact h1.apart f f' x x' b hx hx' hb hb'
  · funext j
    refine propext ⟨?_, ?_⟩
    · rintro ((h | h | h | h | ⟨f, x, hx, h⟩) | rfl)
      · exact .inl h
      · exact .inr (.inl h)
      · exact .inr (.inr (.inl h))
      · exact .inr (.inr (.inr (.inl h)))
      · have hne := hf f x hx
        refine .inr (.inr (.inr (.inr ⟨f, x, ?_, ?_⟩)))
        · unfold Dk.upd; simp only; rw [if_neg hne]; exact hx
        · show j = f ∨ (if f = w.heap.size then Value.slice none 0 0 else rows f).ownBlock = some j
          rw [if_neg hne]; exact h
      · refine .inr (.inr (.inr (.inr ⟨w.heap.size, ⟨[], 0⟩, ?_, .inl rfl⟩)))
        unfold Dk.upd; simp
    · rintro (h | h | h | h | ⟨f, x, hx, h⟩)
      · exact .inl (.inl h)
      · exact .inl (.inr (.inl h))
      · exact .inl (.inr (.inr (.inl h)))
      · exact .inl (.inr (.inr (.inr (.inl h))))
      · rcases hu f x hx with ⟨rfl, rfl⟩ | ⟨hne, hx⟩
        · change j = w.heap.size ∨ (if w.heap.size = w.heap.size then Value.slice none 0 0 else rows w.heap.size).ownBlock = some j at h
          rw [if_pos rfl] at h
          rcases h with h | h
          · exact .inr h
          · cases h
        · change j = f ∨ (if f = w.heap.size then Value.slice none 0 0 else rows f).ownBlock = some j at h
          rw [if_neg hne] at h
          exact .inl (.inr (.inr (.inr (.inr ⟨f, x, hx, h⟩))))
def Dk.createE (k : Dk) (s : List UInt8) : Int := if k.findE s = 0 then 3 else if k.findE s = 4 then errDown k.burns else k.findE s
def Dk.created (k : Dk) (f : Nat) (s : ByteArray) : Dk := if k.findE s.data.toList = 4 then (if k.burns then (k.upd f ⟨[], 0⟩).did ⟨⟨#[]⟩, s, some f⟩ else (k.upd f ⟨[], 0⟩).burn) else k
theorem findE_cases (k : Dk) (s : List UInt8) : k.findE s = 0 ∨ k.findE s = 4 ∨ k.findE s = 2 ∨ k.findE s = 6 := by
  unfold Dk.findE Dk.may
  cases k.down <;> cases dName s <;> cases (k.dir s).isSome <;> simp
theorem findE_ok {k : Dk} {s : List UInt8} (h : k.findE s = 0) : k.down = false ∧ dName s = true ∧ ∃ f, k.dir s = some f ∧ k.findF s = some f := by
  unfold Dk.findE at h
  unfold Dk.findF
  unfold Dk.may at h ⊢
  cases hd : k.down <;> cases hn : dName s <;> cases hf : k.dir s <;> simp [hd, hn, hf] at h ⊢
theorem findE_miss {k : Dk} {s : List UInt8} (h : k.findE s = 4) : k.down = false ∧ dName s = true ∧ k.dir s = none := by
  unfold Dk.findE at h
  unfold Dk.may at h
  cases hd : k.down <;> cases hn : dName s <;> cases hf : k.dir s <;> simp [hd, hn, hf] at h ⊢
theorem dName_ne {s : ByteArray} (h : dName s.data.toList = true) : s.toList.isEmpty = false := by
  rw [Lib.toList_data]
  cases hl : s.data.toList with
  | nil => rw [hl] at h; cases h
  | cons a l => rfl
set_option maxHeartbeats 2000000 in
set_option maxRecDepth 100000 in
theorem create_calls (k : Dk) (B D : Nat) (O : Nat → Prop) (s : ByteArray) (w : World) (hd : Disk w B D O k) (hk : k.ok) (hs : s.size ≤ maxLen) (hr : k.room < 4000) (hB : B ≤ w.heap.size) :
    Calls Tryz.prog 70 #[.pointer (some ⟨D, 0, none⟩), .string s] w fun e w' => e = .returned (.int .i64 (k.createE s.data.toList)) ∧ ∃ f, w.heap.size ≤ f ∧ Goes w B D O (k.created f s) w' := by
  have hF := find_calls k B D O s w hd hs
  have hE : k.createE s.data.toList = if k.findE s.data.toList = 0 then 3 else if k.findE s.data.toList = 4 then errDown k.burns else k.findE s.data.toList := rfl
  have hC : ∀ f, k.created f s = if k.findE s.data.toList = 4 then (if k.burns then (k.upd f ⟨[], 0⟩).did ⟨⟨#[]⟩, s, some f⟩ else (k.upd f ⟨[], 0⟩).burn) else k := fun _ => rfl
  rw [hE]
  clear hE
  have hFp : ∃ p, ptrV (k.findF s.data.toList) = .pointer p := by cases k.findF s.data.toList <;> exact ⟨_, rfl⟩
  obtain ⟨p, hp⟩ := hFp
  rw [hp] at hF
  have hF' := Lib.hid hF
  clear hF
  rcases findE_cases k s.data.toList with h | h | h | h
  · rw [h] at hF'
    simp only [h, if_true, if_neg (show ¬ (0 : Int) = 4 by decide)] at hC ⊢
    have hC' := Lib.hid hC
    clear hC
    go_enter Tryz.func70, Tryz.ntmps70
    go_wp2_with fail
    refine hF'.out.mono ?_
    rintro e w1 ⟨rfl, b1⟩
    go_wp2
    go_ret
    exact ⟨rfl, w.heap.size, Nat.le_refl _, by rw [hC'.out]; exact Goes.same (hd.later b1) (.of_below b1)⟩
  · rw [h] at hF'
    simp only [h, if_true, if_neg (show ¬ (4 : Int) = 0 by decide)] at hC ⊢
    have hC' := Lib.hid hC
    clear hC
    go_enter Tryz.func70, Tryz.ntmps70
    go_wp2_with fail
    refine hF'.out.mono ?_
    rintro e w1 ⟨rfl, b1⟩
    have hd1 := hd.later b1
    have hB1 : B ≤ w1.heap.size := by have := b1.size; omega
    have hN := hd1.newfile hB1
    have hD := do_calls (k.upd w1.heap.size ⟨[], 0⟩) B D _ ⟨⟨#[]⟩, s, some w1.heap.size⟩ _ hN
    obtain ⟨bd, bs, n, va, rows, hdat, hn, rfl⟩ := hd1
    obtain ⟨X, h1, h2⟩ := hdat.dir
    have hlen := h1.len Tryz.underlying79 3
    have hsz : Maps.size X ≤ n := h1.size_le
    have qc := hdat.blk.cell
    go_wp2_with fail
    refine (hD (hk.upd _ _ (Nat.zero_le _)) ⟨by show (0 : Nat) ≤ maxLen; decide, hs, ?_⟩ ?_ (by show k.room < 4000; exact hr) (by simp; omega)).mono ?_
    · show true = !s.toList.isEmpty
      rw [dName_ne (findE_miss h).2.1]; rfl
    · rintro p' e
      obtain rfl := Option.some.inj e
      unfold Dk.upd; simp
    · rintro e w2 ⟨rfl, ⟨O', h5, h6⟩, h7⟩
      have hb : (k.upd w1.heap.size ⟨[], 0⟩).burns = k.burns := rfl
      rw [hb] at h5 ⊢
      go_wp2
      go_ret
      refine ⟨rfl, w1.heap.size, b1.size, ?_⟩
      rw [hC'.out]
      refine Goes.at b1 ⟨⟨O', h5, fun j hj => ?_⟩, ?_⟩
      · rcases h6 j hj with (h8 | h8) | h8
        · exact .inl h8
        · exact .inr (by omega)
        · exact .inr (by simp at h8; omega)
      · refine ((Keeps.refl _ w1).alloc _).step h7 fun j hj => ?_
        rcases hj with hj | hj
        · exact .inl hj
        · exact .inr (by omega)
  all_goals
    rw [h] at hF'
    simp only [h, if_neg (show ¬ (2 : Int) = 0 by decide), if_neg (show ¬ (2 : Int) = 4 by decide), if_neg (show ¬ (6 : Int) = 0 by decide), if_neg (show ¬ (6 : Int) = 4 by decide)] at hC ⊢
    have hC' := Lib.hid hC
    clear hC
    go_enter Tryz.func70, Tryz.ntmps70
    go_wp2_with fail
    refine hF'.out.mono ?_
    rintro e w1 ⟨rfl, b1⟩
    go_wp2
    go_ret
    exact ⟨rfl, w.heap.size, Nat.le_refl _, by rw [hC'.out]; exact Goes.same (hd.later b1) (.of_below b1)⟩
end Go.Proofs.YtabcdodjkfknlaaGreatDoor
namespace Go.Proofs.YtabcdodjkfknlaaGreatDoor
open Go.RowKit Go.Maps Go.Shelf
/-- bytes that lie somewhere -/
def Bytes0 (w : World) (v : Value) (l : List UInt8) : Prop := (v = .slice none 0 0 ∧ l = []) ∨ ∃ g o c, v = .slice (some ⟨g, o, none⟩) l.length c ∧ l.length ≤ c ∧ ∀ i x, l[i]? = some x → w.cell? ⟨g, o + i, none⟩ = some (.int .u8 x.toNat)
/-- bytes that lie somewhere, or none of them, anywhere -/
def Bytes (w : World) (v : Value) (l : List UInt8) : Prop := Bytes0 w v l ∨ ∃ a c, v = .slice (some a) 0 c ∧ l = []
theorem bcells_length (l : List UInt8) : (bcells l).length = l.length := by simp [bcells]
theorem bcells_append (l l' : List UInt8) : bcells (l ++ l') = bcells l ++ bcells l' := by simp [bcells]
theorem bcells_get (l : List UInt8) (i : Nat) : (bcells l)[i]? = (l[i]?).map fun x => .int .u8 x.toNat := by simp [bcells]
theorem bcells_one (l : List UInt8) : ∀ u ∈ bcells l, u.oneCell' = true := by
  intro u hu
  unfold bcells at hu
  obtain ⟨x, _, rfl⟩ := List.mem_map.1 hu
  rfl
theorem Bytes0.of_own {w : World} {B : Nat} {v : Value} {l : List UInt8} (h : w.ownsRow B 5 1 v l.length (bcells l)) : Bytes0 w v l := by
  obtain ⟨_, ⟨rfl, h0⟩ | ⟨g, cap, cur, rfl, h1, h2, h3, h4, h5, h6⟩⟩ := id h
  · exact .inl ⟨rfl, List.eq_nil_of_length_eq_zero h0⟩
  · refine .inr ⟨g, 0, cap, rfl, h3, fun i x hx => ?_⟩
    have hi : i < l.length := by
      rcases Nat.lt_or_ge i l.length with h | h
      · exact h
      · rw [List.getElem?_eq_none h] at hx; cases hx
    rw [Nat.zero_add, h.cellAt i (by omega), bcells_get, hx]; rfl
theorem Bytes.of_own {w : World} {B : Nat} {v : Value} {l : List UInt8} (h : w.ownsRow B 5 1 v l.length (bcells l)) : Bytes w v l := .inl (Bytes0.of_own h)
theorem cell_lt {w : World} {g o : Nat} {v : Value} (h : w.cell? ⟨g, o, none⟩ = some v) : g < w.heap.size := by
  rcases Nat.lt_or_ge g w.heap.size with hlt | hge
  · exact hlt
  · unfold World.cell? at h; rw [Array.getElem?_eq_none hge] at h; cases h
theorem Bytes.keepsP {S : Nat → Prop} {w w' : World} {v : Value} {l : List UInt8} (h : Bytes w v l) (hk : Keeps S w w') (hs : ∀ g, v.ownBlock = some g → l ≠ [] → ¬ S g) : Bytes w' v l := by
  rcases h with (h | ⟨g, o, c, rfl, hc, h⟩) | h
  · exact .inl (.inl h)
  · refine .inl (.inr ⟨g, o, c, rfl, hc, fun i x hx => ?_⟩)
    rw [World.cell?_of_block (hk.block g (cell_lt (h i x hx)) (hs g rfl (fun e => by rw [e] at hx; cases hx)))]; exact h i x hx
  · exact .inr h
theorem Bytes.keeps {S : Nat → Prop} {w w' : World} {v : Value} {l : List UInt8} (h : Bytes w v l) (hk : Keeps S w w') (hs : ∀ g, v.ownBlock = some g → ¬ S g) : Bytes w' v l := by
  rcases h with (h | ⟨g, o, c, rfl, hc, h⟩) | h
  · exact .inl (.inl h)
  · exact .inl (.inr ⟨g, o, c, rfl, hc, fun i x hx => by rw [World.cell?_of_block (hk.block g (cell_lt (h i x hx)) (hs g rfl))]; exact h i x hx⟩)
  · exact .inr h
theorem Bytes.later {w w' : World} {v : Value} {l : List UInt8} (h : Bytes w v l) (hb : Below w.heap.size w w') : Bytes w' v l := h.keeps (S := fun _ => False) (.of_below hb) (fun _ _ => id)
theorem Bytes.slice {w : World} {v : Value} {l : List UInt8} (h : Bytes w v l) : ∃ p c, v = .slice p l.length c := by
  rcases h with (⟨rfl, rfl⟩ | ⟨g, o, c, rfl, _, _⟩) | ⟨a, c, rfl, rfl⟩
  · exact ⟨_, _, rfl⟩
  · exact ⟨_, _, rfl⟩
  · exact ⟨_, _, rfl⟩
theorem info_u8 : (Tryz.prog.info? 5).map (fun i => (i.zero, i.size, i.bytes)) = some (some (.int .u8 0), 1, 1) := by kernel_rfl
/-- bytes behind bytes -/
theorem bytes_append {w : World} {B : Nat} {v b : Value} {l l' : List UInt8} (h : w.ownsRow B 5 1 v l.length (bcells l)) (hb : Bytes w b l') (hn : l.length + l'.length ≤ 100000000000) (hB : B ≤ w.heap.size) :
    ∃ v' w', (Builtin.append_ #[43, 43] 43 #[v, b]).run Tryz.prog w = .ok v' w' ∧ w'.ownsRow B 5 1 v' (l ++ l').length (bcells (l ++ l')) ∧ w.grownBy w' v.ownBlock ∧ (v'.ownBlock = v.ownBlock ∨ v'.ownBlock = some w.heap.size) := by
  obtain ⟨i0, hi, hz0, hz1, hz2⟩ := info_parts info_u8
  rcases hb with (⟨rfl, rfl⟩ | ⟨g, o, c, rfl, _, hc⟩) | ⟨a, c, rfl, rfl⟩
  · refine ⟨v, w, run_append_owned_none w B _ _ _ i0 1 Tryz.underlying43 hi v l.length _ h, by simpa using h, ⟨rfl, rfl, rfl, Nat.le_refl _, fun _ _ _ => rfl⟩, .inl rfl⟩
  · obtain ⟨v', w', h2, h3, h4, _, h5⟩ := run_append_own_at (P := Tryz.prog) w B 43 43 5 i0 (.int .u8 0) 1 1 Tryz.underlying43 hi hz0 hz1 hz2 rfl (by decide) v l.length _ h ⟨g, o, none⟩ l'.length c (bcells l') (by rw [bcells_length, Nat.mul_one]) (by
      intro j u hj
      rw [bcells_get] at hj
      cases hx : l'[j]? with
      | none => rw [hx] at hj; cases hj
      | some x =>
        rw [hx] at hj
        obtain rfl := Option.some.inj hj
        rw [Addr.add_lit]
        exact hc j x hx) (bcells_one l') (by unfold maxLen; omega) (by omega) hB
    exact ⟨v', w', h2, by rw [List.length_append, bcells_append]; exact h3, h4, h5⟩
  · obtain ⟨v', w', h2, h3, h4, _, h5⟩ := run_append_own_at (P := Tryz.prog) w B 43 43 5 i0 (.int .u8 0) 1 1 Tryz.underlying43 hi hz0 hz1 hz2 rfl (by decide) v l.length _ h a 0 c [] rfl (fun j u hj => by simp at hj) (fun u hu => by simp at hu) (by unfold maxLen; simp at hn; omega) (by simp at hn; omega) hB
    exact ⟨v', w', h2, by rw [List.append_nil]; simpa using h3, h4, h5⟩
theorem Goes.next {w w1 : World} {B D : Nat} {O : Nat → Prop} {k1 : Dk} (h : Goes w B D O k1 w1) : ∃ O1, Disk w1 B D O1 k1 ∧ ∀ k2 w2, Goes w1 B D O1 k2 w2 → Goes w B D O k2 w2 := by
  obtain ⟨⟨O1, h1, h2⟩, h3⟩ := h
  refine ⟨O1, h1, fun k2 w2 ⟨⟨O2, h4, h5⟩, h6⟩ => ⟨⟨O2, h4, fun j hj => ?_⟩, h3.step h6 h2⟩⟩
  have := h3.size
  rcases h5 j hj with h | h
  · exact h2 j h
  · exact .inr (by omega)
theorem Goes.behind {w w1 w' : World} {B D : Nat} {O : Nat → Prop} {k : Dk} (hk : Keeps O w w1) (h : Goes w1 B D O k w') : Goes w B D O k w' := by
  obtain ⟨⟨O', h1, h2⟩, h3⟩ := h
  have := hk.size
  exact ⟨⟨O', h1, fun j hj => (h2 j hj).imp id (fun h => by omega)⟩, hk.trans h3⟩
/-- a file is turned -/
theorem Disk.refile {w : World} {B D : Nat} {O : Nat → Prop} {k : Dk} (h : Disk w B D O k) {f : Nat} {x : File} (hf : k.file f = some x) : ∃ v, Blk w f 101 #[v, .int .i64 x.safe] ∧ w.ownsRow B 5 1 v x.data.length (bcells x.data) ∧ x.safe ≤ x.data.length ∧ B ≤ f ∧ O f ∧ (∀ j, v.ownBlock = some j → O j) ∧ v.ownBlock ≠ some D ∧ f ≠ D ∧
    ∀ w' v' x', Keeps (fun j => j = f ∨ v.ownBlock = some j) w w' → Blk w' f 101 #[v', .int .i64 x'.safe] → w'.ownsRow B 5 1 v' x'.data.length (bcells x'.data) → (∀ b, v'.ownBlock = some b → v.ownBlock = some b ∨ w.heap.size ≤ b) → x'.safe ≤ x'.data.length → Goes w B D O (k.upd f x') w' := by
  have hlt := h.lt
  obtain ⟨bd, bs, n, va, rows, hd, hn, rfl⟩ := h
  obtain ⟨f1, f2, f3, f4⟩ := hd.file f x hf
  have hOf : dset D bd bs va rows k f := .inr (.inr (.inr (.inr ⟨f, x, hf, .inl rfl⟩)))
  have hOv : ∀ j, (rows f).ownBlock = some j → dset D bd bs va rows k j := fun j hj => .inr (.inr (.inr (.inr ⟨f, x, hf, .inr hj⟩)))
  refine ⟨rows f, f2, f3, f4, f1, hOf, hOv, own_blk_ne f3 hd.blk (by decide), f2.ne_ hd.blk (by decide), ?_⟩
  intro w' v' x' hk hb ho hl hs
  obtain ⟨X, h1, h2⟩ := hd.dir
  obtain ⟨Y, h3, h4⟩ := hd.safe
  have hu : ∀ j y, (k.upd f x').file j = some y → (j = f ∧ y = x') ∨ (j ≠ f ∧ k.file j = some y) := by
    intro j y hj
    unfold Dk.upd at hj
    simp only at hj
    split at hj
    · rename_i e; exact .inl ⟨e, (Option.some.inj hj).symm⟩
    · rename_i e; exact .inr ⟨e, hj⟩
  have hblk : ∀ {j t cs}, Blk w j t cs → t ≠ 101 → t ≠ 5 → Blk w' j t cs := by
    intro j t cs hj n1 n2
    refine hj.keeps hk ?_
    rintro (e | e)
    · exact hj.ne_ f2 n1 e
    · exact own_blk_ne f3 hj (fun e => n2 e.symm) e
  have hmap : ∀ {b n : Nat} {X : DataW Unit}, w.ownsMap Tryz.prog 9 ptrR b n X → w'.ownsMap Tryz.prog 9 ptrR b n X := by
    intro b n X hX
    refine map_keeps hX hk ?_
    rintro (e | e)
    · exact map_ne hX f2 e
    · exact own_map_ne f3 hX e
  have hacts : w'.ownsRow B 116 3 va k.acts.length (acells k.acts) := by
    refine own_keeps hd.acts hk (fun g hg => ?_)
    obtain ⟨_, _, _, r⟩ := hd.row_ne
    obtain ⟨r1, r2⟩ := r f x hf
    rintro (e | e)
    · exact r1 (by rw [hg, e])
    · exact r2 g e hg
  refine ⟨⟨_, ⟨bd, bs, n, va, fun j => if j = f then v' else rows j, ⟨hblk hd.blk (by decide) (by decide), ⟨X, hmap h1, h2⟩, ⟨Y, hmap h3, h4⟩, hd.two, hacts, ?_, ?_, hd.base⟩, hn, rfl⟩, ?_⟩, ?_⟩
  · intro f' y hy
    rcases hu f' y hy with ⟨rfl, rfl⟩ | ⟨hne, hy⟩
    · rw [if_pos rfl]
      exact ⟨f1, hb, ho, hs⟩
    · rw [if_neg hne]
      obtain ⟨g1, g2, g3, g4⟩ := hd.file f' y hy
      refine ⟨g1, g2.keeps hk ?_, own_keeps g3 hk ?_, g4⟩
      · rintro (e | e)
        · exact hne e
        · exact own_blk_ne f3 g2 (by decide) e
      · rintro g hg (e | e)
        · exact own_blk_ne g3 f2 (by decide) (by rw [hg, e])
        · exact hne (hd.apart f' f y x g hy hf hg e)
  · intro f1' f2' y1 y2 b hy1 hy2 hb1 hb2
    have hfar : ∀ f' y, f' ≠ f → k.file f' = some y → v'.ownBlock = some b → (rows f').ownBlock = some b → False := by
      intro f' y hne hy e1 e2
      rcases hl b e1 with e | e
      · exact hne (hd.apart f' f y x b hy hf e2 e)
      · have := hlt b (.inr (.inr (.inr (.inr ⟨f', y, hy, .inr e2⟩)))); omega
    rcases hu f1' y1 hy1 with ⟨rfl, rfl⟩ | ⟨hne1, hz1⟩
    · rw [if_pos rfl] at hb1
      rcases hu f2' y2 hy2 with ⟨rfl, rfl⟩ | ⟨hne2, hy2⟩
      · rfl
      · rw [if_neg hne2] at hb2
        exact (hfar f2' y2 hne2 hy2 hb1 hb2).elim
    · rw [if_neg hne1] at hb1
      rcases hu f2' y2 hy2 with ⟨rfl, rfl⟩ | ⟨hne2, hy2⟩
      · rw [if_pos rfl] at hb2
        exact (hfar f1' y1 hne1 hz1 hb2 hb1).elim
      · rw [if_neg hne2] at hb2
        exact hd.apart f1' f2' y1 y2 b hz1 hy2 hb1 hb2
  · rintro j (h | h | h | h | ⟨f', y, hy, h⟩)
    · exact .inl (.inl h)
    · exact .inl (.inr (.inl h))
    · exact .inl (.inr (.inr (.inl h)))
    · exact .inl (.inr (.inr (.inr (.inl h))))
    · rcases hu f' y hy with ⟨rfl, rfl⟩ | ⟨hne, hy⟩
      · change j = f' ∨ (if f' = f' then v' else rows f').ownBlock = some j at h
        rw [if_pos rfl] at h
        rcases h with rfl | h
        · exact .inl hOf
        · rcases hl j h with e | e
          · exact .inl (hOv j e)
          · exact .inr e
      · change j = f' ∨ (if f' = f then v' else rows f').ownBlock = some j at h
        rw [if_neg hne] at h
        exact .inl (.inr (.inr (.inr (.inr ⟨f', y, hy, h⟩))))
  · refine hk.mono ?_
    rintro j _ (rfl | e)
    · exact hOf
    · exact hOv j e
def Dk.name (k : Dk) (s : List UInt8) : Nat := (k.dir s).getD 0
def Dk.got (k : Dk) (f : Nat) : File := (k.file f).getD ⟨[], 0⟩
theorem findE_got {k : Dk} {s : List UInt8} (hk : k.ok) (h : k.findE s = 0) : k.down = false ∧ dName s = true ∧ k.dir s = some (k.name s) ∧ k.findF s = some (k.name s) ∧ k.file (k.name s) = some (k.got (k.name s)) := by
  obtain ⟨h1, h2, f, h3, h4⟩ := findE_ok h
  have hn : k.name s = f := by unfold Dk.name; rw [h3]; rfl
  obtain ⟨x, hx⟩ := Option.isSome_iff_exists.1 (hk.live s f h3)
  rw [hn]
  refine ⟨h1, h2, h3, h4, ?_⟩
  unfold Dk.got
  rw [hx]; rfl
end Go.Proofs.YtabcdodjkfknlaaGreatDoor
namespace Go.Proofs.YtabcdodjkfknlaaGreatDoor
open Go.RowKit Go.Maps Go.Shelf
def Dk.fused (k : Dk) (n : Int) : Dk := { k with fuse := max n (-1) }
set_option maxHeartbeats 1000000 in
theorem fuse_calls (k : Dk) (B D : Nat) (O : Nat → Prop) (n : Int) (w : World) (hd : Disk w B D O k) :
    Calls Tryz.prog 26 #[.pointer (some ⟨D, 0, none⟩), .int .i64 n] w fun e w' => e = .returned (.tuple #[]) ∧ Disk w' B D O (k.fused n) ∧ Keeps O w w' := by
  obtain ⟨bd, bs, va, hb⟩ := hd.blk
  have qc := hb.cell
  have qf := hb.frozen
  unfold dcells at qc
  have hx := fun x (hx : x = max n (-1)) => hd.field (k' := k.fused n) (w' := w.setCell ⟨D, 2, none⟩ (.int .i64 x)) (Keeps.setCell (S := fun j => j = D) (Keeps.refl _ w) (p := ⟨D, 2, none⟩) (.inl rfl) _) (fun bd bs va h => by subst hx; exact h.set_ 2 _) ⟨rfl, rfl, rfl, rfl, rfl, rfl⟩
  have hx' := Lib.hid hx
  clear hx hb hd
  go_enter Tryz.func26, Tryz.ntmps26
  go_wp2
  all_goals
    go_end0
    refine ⟨rfl, ?_⟩
    exact hx'.out _ (by omega)
def Dk.usedA (k : Dk) : Int := if k.down then 0 else k.used
def Dk.syncE (k : Dk) (s : List UInt8) : Int := if k.findE s = 0 then errDown k.burns else k.findE s
def Dk.synced (k : Dk) (s : List UInt8) : Dk := if k.findE s = 0 then (if k.burns then k.burn.upd (k.name s) ⟨(k.got (k.name s)).data, (k.got (k.name s)).data.length⟩ else k.burn) else k
set_option maxHeartbeats 2000000 in
set_option maxRecDepth 100000 in
theorem sync_calls (k : Dk) (B D : Nat) (O : Nat → Prop) (s : ByteArray) (w : World) (hd : Disk w B D O k) (hk : k.ok) (hs : s.size ≤ maxLen) :
    Calls Tryz.prog 97 #[.pointer (some ⟨D, 0, none⟩), .string s] w fun e w' => e = .returned (.int .i64 (k.syncE s.data.toList)) ∧ Goes w B D O (k.synced s.data.toList) w' := by
  have hF := find_calls k B D O s w hd hs
  have hE : k.syncE s.data.toList = if k.findE s.data.toList = 0 then errDown k.burns else k.findE s.data.toList := rfl
  have hC : k.synced s.data.toList = if k.findE s.data.toList = 0 then (if k.burns then k.burn.upd (k.name s.data.toList) ⟨(k.got (k.name s.data.toList)).data, (k.got (k.name s.data.toList)).data.length⟩ else k.burn) else k := rfl
  rw [hE]
  clear hE
  have hFp : ∃ p, ptrV (k.findF s.data.toList) = .pointer p := by cases k.findF s.data.toList <;> exact ⟨_, rfl⟩
  obtain ⟨p, hp⟩ := hFp
  rw [hp] at hF
  have hF' := Lib.hid hF
  clear hF
  by_cases h : k.findE s.data.toList = 0
  · rw [h] at hF'
    simp only [h, if_true] at hC ⊢
    have hC' := Lib.hid hC
    clear hC
    obtain ⟨g1, g2, g3, g4, g5⟩ := findE_got hk h
    rw [g4] at hp
    unfold ptrV at hp
    obtain rfl : p = some ⟨k.name s.data.toList, 0, none⟩ := by simpa using hp.symm
    generalize k.name s.data.toList = f at *
    generalize k.got f = x at *
    clear g1 g2 g3 g4 hp h
    cases hbn : k.burns
    · go_enter Tryz.func97, Tryz.ntmps97
      go_wp2_with fail
      refine hF'.out.mono ?_
      rintro e w1 ⟨rfl, b1⟩
      have hd1 := hd.later b1
      have hB := burn_calls k B D O _ hd1 hk.fuse
      rw [hbn] at hB
      have hB' := Lib.hid hB
      clear hB
      go_wp2_with fail
      refine hB'.out.mono ?_
      rintro e w2 ⟨rfl, h2, k2⟩
      unfold errDown
      go_wp2
      go_ret
      refine ⟨rfl, ?_⟩
      rw [hC'.out, hbn]
      exact Goes.at b1 (Goes.same h2 k2)
    · go_enter Tryz.func97, Tryz.ntmps97
      go_wp2_with fail
      refine hF'.out.mono ?_
      rintro e w1 ⟨rfl, b1⟩
      have hd1 := hd.later b1
      have hB := burn_calls k B D O _ hd1 hk.fuse
      rw [hbn] at hB
      have hB' := Lib.hid hB
      clear hB
      go_wp2_with fail
      refine hB'.out.mono ?_
      rintro e w2 ⟨rfl, h2, k2⟩
      obtain ⟨v, r1, r2, r3, r4, r5, r6, r7, r8, r9⟩ := h2.refile (f := f) (x := x) (by rw [(burn_same k).2.2.2.1]; exact g5)
      have hw := r9 (w2.setCell ⟨f, 1, none⟩ (.int .i64 x.data.length)) v ⟨x.data, x.data.length⟩ (Keeps.setCell (Keeps.refl _ _) (p := ⟨f, 1, none⟩) (.inl (.inl rfl)) _) (r1.set_ 1 _) (own_keeps r2 (Keeps.setCell (S := fun j => j = f) (Keeps.refl _ w2) (p := ⟨f, 1, none⟩) (.inl rfl) _) (fun g hg e => own_blk_ne r2 r1 (by decide) (by rw [hg, e]))) (fun b hb => .inl hb) (Nat.le_refl _)
      have hw' := Lib.hid hw
      obtain ⟨p2, c2, rfl⟩ := own_slice r2
      have qc := r1.cell
      have qf := r1.frozen
      clear hw r9 r2 r1 hB' hF' hd1 h2
      unfold errDown
      go_wp2
      go_ret
      refine ⟨rfl, ?_⟩
      rw [hC'.out, hbn]
      exact Goes.at b1 (Goes.behind k2 hw'.out)
  · have hne : (k.findE s.data.toList == 0) = false := by simpa using h
    simp only [h, if_false] at hC ⊢
    generalize k.findE s.data.toList = E at *
    have hC' := Lib.hid hC
    have h0 := Lib.hid h
    clear hC h
    go_enter Tryz.func97, Tryz.ntmps97
    go_wp2_with fail
    refine hF'.out.mono ?_
    rintro e w1 ⟨rfl, b1⟩
    go_wp2
    go_ret
    exact ⟨rfl, by rw [hC'.out]; exact Goes.same (hd.later b1) (.of_below b1)⟩
end Go.Proofs.YtabcdodjkfknlaaGreatDoor
namespace Go.Proofs.YtabcdodjkfknlaaGreatDoor
open Go.RowKit Go.Maps Go.Shelf
attribute [local go_sem ↓] dapp_op
def Dk.readB (k : Dk) (s : List UInt8) : List UInt8 := if k.findE s = 0 then (k.got (k.name s)).data else []
theorem clone_calls (B : Nat) (v : Value) (l : List UInt8) (w : World) (h : w.ownsRow B 5 1 v l.length (bcells l)) (hl : l.length ≤ 100000000000) :
    Calls Tryz.prog 101 #[v] w fun e w' => ∃ v', e = .returned v' ∧ w'.ownsRow w.heap.size 5 1 v' l.length (bcells l) ∧ Below w.heap.size w w' := by
  rcases Bytes0.of_own h with ⟨rfl, rfl⟩ | ⟨g, o, c, rfl, _, hc⟩
  · refine (AnyE.slices_Clone_nil Tryz.cloneB 0 0 w).mono ?_
    rintro e w' ⟨rfl, rfl⟩
    exact ⟨_, rfl, World.ownsRow_nil _ _ _ _, Below.refl _ _⟩
  · obtain ⟨i0, hi, hz0, hz1, hz2⟩ := info_parts info_u8
    refine (AnyE.slices_Clone Tryz.cloneB i0 (.int .u8 0) 1 1 hi hz0 hz1 hz2 rfl (by decide) (fun w => Tryz.sizeOf5 w) g o l.length c (bcells l) w (by rw [bcells_length, Nat.mul_one]) (by unfold maxLen; omega) (by omega) (fun j u hj => ?_) (bcells_one l)).mono ?_
    · rw [bcells_get] at hj
      cases hx : l[j]? with
      | none => rw [hx] at hj; cases hj
      | some x =>
        rw [hx] at hj
        obtain rfl := Option.some.inj hj
        exact hc j x hx
    · rintro e w' ⟨v', rfl, h1, _, h3⟩
      exact ⟨v', rfl, h1, h3⟩
def ReadPost (w : World) (E : Int) (l : List UInt8) (e : Ending) (w' : World) : Prop := ∃ v, e = .returned (.tuple #[v, .int .i64 E]) ∧ w'.ownsRow w.heap.size 5 1 v l.length (bcells l) ∧ Below w.heap.size w w'
set_option maxHeartbeats 2000000 in
set_option maxRecDepth 100000 in
theorem read_calls (k : Dk) (B D : Nat) (O : Nat → Prop) (s : ByteArray) (w : World) (hd : Disk w B D O k) (hk : k.ok) (hr : k.room ≤ 4000) (hs : s.size ≤ maxLen) :
    Calls Tryz.prog 59 #[.pointer (some ⟨D, 0, none⟩), .string s] w (ReadPost w (k.findE s.data.toList) (k.readB s.data.toList)) := by
  have hF := find_calls k B D O s w hd hs
  have hC : k.readB s.data.toList = if k.findE s.data.toList = 0 then (k.got (k.name s.data.toList)).data else [] := rfl
  have hFp : ∃ p, ptrV (k.findF s.data.toList) = .pointer p := by cases k.findF s.data.toList <;> exact ⟨_, rfl⟩
  obtain ⟨p, hp⟩ := hFp
  rw [hp] at hF
  have hF' := Lib.hid hF
  clear hF
  by_cases h : k.findE s.data.toList = 0
  · rw [h] at hF'
    simp only [h, if_true] at hC ⊢
    rw [hC]
    clear hC
    obtain ⟨g1, g2, g3, g4, g5⟩ := findE_got hk h
    rw [g4] at hp
    unfold ptrV at hp
    obtain rfl : p = some ⟨k.name s.data.toList, 0, none⟩ := by simpa using hp.symm
    generalize k.name s.data.toList = f at *
    generalize k.got f = x at *
    have hl := hk.small f x g5
    clear g1 g2 g3 g4 hp h
    go_enter Tryz.func59, Tryz.ntmps59
    go_wp2_with fail
    refine hF'.out.mono ?_
    rintro e w1 ⟨rfl, b1⟩
    have hd1 := hd.later b1
    obtain ⟨v, r1, r2, r3, _⟩ := hd1.refile g5
    have hCl := clone_calls B v x.data w1 r2 (by omega)
    have hCl' := Lib.hid hCl
    have qc := r1.cell
    obtain ⟨p2, c2, rfl⟩ := own_slice r2
    clear hCl hF' r2 r1 hd1 g5
    go_wp2_with fail
    refine hCl'.out.mono ?_
    rintro e w2 ⟨v', rfl, h3, b2⟩
    have h3' := Lib.hid h3
    clear h3
    go_wp2
    go_ret2
    refine ⟨v', rfl, ?_, b1.trans (b2.mono b1.size)⟩
    obtain ⟨q1, q2⟩ := h3'.out
    refine ⟨q1, q2.imp id ?_⟩
    rintro ⟨g, cap, cur, q3, q4, q5⟩
    exact ⟨g, cap, cur, q3, Nat.le_trans b1.size q4, q5⟩
  · have hne : (k.findE s.data.toList == 0) = false := by simpa using h
    simp only [h, if_false] at hC ⊢
    rw [hC]
    generalize k.findE s.data.toList = E at *
    have h0 := Lib.hid h
    clear hC h
    go_enter Tryz.func59, Tryz.ntmps59
    go_wp2_with fail
    refine hF'.out.mono ?_
    rintro e w1 ⟨rfl, b1⟩
    go_wp2
    go_ret2
    exact ⟨_, rfl, World.ownsRow_nil _ _ _ _, b1⟩
def Dk.appE (k : Dk) (s : List UInt8) (n : Nat) : Int := if k.findE s = 0 then (if k.cap - k.used < n then 5 else errDown k.burns) else k.findE s
def Dk.more (k : Dk) (f : Nat) (b : List UInt8) : Dk := { k.upd f ⟨(k.got f).data ++ b, (k.got f).safe⟩ with used := k.used + b.length, room := k.room + 1 }
def Dk.apped (k : Dk) (s b : List UInt8) : Dk := if k.findE s = 0 then (if k.cap - k.used < b.length then k else if k.burns then k.burn.more (k.name s) b else k.burn) else k
theorem Disk.roomier {w : World} {B D : Nat} {O : Nat → Prop} {k : Dk} (h : Disk w B D O k) : Disk w B D O { k with room := k.room + 1 } := by
  obtain ⟨bd, bs, n, va, rows, hd, hn, rfl⟩ := h
  exact ⟨bd, bs, n, va, rows, ⟨hd.blk, hd.dir, hd.safe, hd.two, hd.acts, hd.file, hd.apart, hd.base⟩, ⟨by show n ≤ k.room + 1; omega, by show k.slots + k.acts.length ≤ k.room + 1; omega⟩, rfl⟩
set_option maxHeartbeats 4000000 in
set_option maxRecDepth 100000 in
theorem append_calls (k : Dk) (B D : Nat) (O : Nat → Prop) (s : ByteArray) (v : Value) (b : List UInt8) (w : World) (hd : Disk w B D O k) (hk : k.ok) (hr : k.room < 4000) (hs : s.size ≤ maxLen) (hB : B ≤ w.heap.size) (hb : Bytes w v b) (hv : ∀ g, v.ownBlock = some g → b ≠ [] → ¬ O g) (hbl : b.length ≤ 65536) :
    Calls Tryz.prog 21 #[.pointer (some ⟨D, 0, none⟩), .string s, v] w fun e w' => e = .returned (.int .i64 (k.appE s.data.toList b.length)) ∧ Goes w B D O (k.apped s.data.toList b) w' := by
  have hF := find_calls k B D O s w hd hs
  have hE : k.appE s.data.toList b.length = if k.findE s.data.toList = 0 then (if k.cap - k.used < b.length then 5 else errDown k.burns) else k.findE s.data.toList := rfl
  have hC : k.apped s.data.toList b = if k.findE s.data.toList = 0 then (if k.cap - k.used < b.length then k else if k.burns then k.burn.more (k.name s.data.toList) b else k.burn) else k := rfl
  rw [hE]
  clear hE
  have hFp : ∃ p, ptrV (k.findF s.data.toList) = .pointer p := by cases k.findF s.data.toList <;> exact ⟨_, rfl⟩
  obtain ⟨p, hp⟩ := hFp
  rw [hp] at hF
  have hF' := Lib.hid hF
  clear hF
  obtain ⟨pv, cv, rfl⟩ := hb.slice
  have hcap := hk.cap
  have hused : -1000000000000000000 ≤ k.used ∧ k.used ≤ 1000000000000000000 := by have := hk.used; omega
  by_cases h : k.findE s.data.toList = 0
  · rw [h] at hF'
    simp only [h, if_true] at hC ⊢
    obtain ⟨g1, g2, g3, g4, g5⟩ := findE_got hk h
    rw [g4] at hp
    unfold ptrV at hp
    obtain rfl : p = some ⟨k.name s.data.toList, 0, none⟩ := by simpa using hp.symm
    generalize k.name s.data.toList = f at *
    have hl := hk.small f _ g5
    clear g1 g2 g3 g4 hp h
    by_cases hsp : k.cap - k.used < b.length
    · simp only [hsp, if_true] at hC ⊢
      have hC' := Lib.hid hC
      clear hC
      go_enter Tryz.func21, Tryz.ntmps21
      go_wp2_with fail
      refine hF'.out.mono ?_
      rintro e w1 ⟨rfl, b1⟩
      have hd1 := hd.later b1
      obtain ⟨bd, bs, va, hblk⟩ := hd1.blk
      have qc := hblk.cell
      unfold dcells at qc
      clear hblk hd1 hF'
      go_wp2_with fail
      go_quiet (fail)
      go_wp2
      go_ret
      refine ⟨rfl, ?_⟩
      rw [hC'.out]
      exact Goes.same (hd.later (bdrewN b1 _)) (.of_below (bdrewN b1 _))
    · simp only [hsp, if_false] at hC ⊢
      cases hbn : k.burns
      · rw [hbn] at hC
        have hC' := Lib.hid hC
        clear hC
        go_enter Tryz.func21, Tryz.ntmps21
        go_wp2_with fail
        refine hF'.out.mono ?_
        rintro e w1 ⟨rfl, b1⟩
        have hd1 := hd.later b1
        obtain ⟨bd, bs, va, hblk⟩ := hd1.blk
        have qc := hblk.cell
        unfold dcells at qc
        clear hblk hF'
        go_wp2_with fail
        go_quiet (fail)
        rename_i nq
        have hB := burn_calls k B D O _ (hd.later (bdrewN b1 nq)) hk.fuse
        rw [hbn] at hB
        have hB' := Lib.hid hB
        clear hB
        go_wp2_with fail
        refine hB'.out.mono ?_
        rintro e w2 ⟨rfl, h2, k2⟩
        unfold errDown
        go_wp2
        go_ret
        refine ⟨rfl, ?_⟩
        rw [hC'.out]
        exact Goes.at (bdrewN b1 nq) (Goes.same h2 k2)
      · rw [hbn] at hC
        have hC' := Lib.hid hC
        clear hC
        go_enter Tryz.func21, Tryz.ntmps21
        go_wp2_with fail
        refine hF'.out.mono ?_
        rintro e w1 ⟨rfl, b1⟩
        have hd1 := hd.later b1
        obtain ⟨bd, bs, va, hblk⟩ := hd1.blk
        have qc := hblk.cell
        unfold dcells at qc
        clear hblk hF'
        go_wp2_with fail
        go_quiet (fail)
        rename_i nq
        have hB := burn_calls k B D O _ (hd.later (bdrewN b1 nq)) hk.fuse
        rw [hbn] at hB
        have hB' := Lib.hid hB
        clear hB
        go_wp2_with fail
        refine hB'.out.mono ?_
        rintro e w2 ⟨rfl, h2, k2⟩
        obtain ⟨r, r1, r2, r3, r4, r5, r6, r7, r8, r9⟩ := h2.refile (f := f) (x := k.got f) (by rw [(burn_same k).2.2.2.1]; exact g5)
        have hb2 : Bytes w2 (.slice pv b.length cv) b := (hb.later (bdrewN b1 nq)).keepsP k2 hv
        obtain ⟨v', w3, e3, o3, g3, l3⟩ := bytes_append r2 hb2 (by omega) (by have := k2.size; have := b1.size; simp at *; omega)
        obtain ⟨pn, cn, hv'⟩ := own_slice o3
        generalize ((k.got f).data ++ b).length = N at hv'
        have kg : Keeps (fun j => r.ownBlock = some j) w2 w3 := (Keeps.refl _ w2).grown g3 (fun j e => .inl e)
        have r1' := r1.keeps kg (fun e => own_blk_ne r2 r1 (by decide) e)
        have nf : v'.ownBlock ≠ some f := own_blk_ne o3 r1' (by decide)
        have hw := r9 (w3.setCell ⟨f, 0, none⟩ v') v' ⟨(k.got f).data ++ b, (k.got f).safe⟩ ((kg.mono (fun _ _ e => .inr e)).setCell (p := ⟨f, 0, none⟩) (.inl (.inl rfl)) _) (r1'.set_ 0 _) (own_keeps o3 (Keeps.setCell (S := fun j => j = f) (Keeps.refl _ w3) (p := ⟨f, 0, none⟩) (.inl rfl) _) (fun g hg e => nf (by rw [hg, e]))) (fun j hj => by
          rcases l3 with e | e
          · exact .inl (by rw [← e]; exact hj)
          · rw [e] at hj; exact .inr (by have := Option.some.inj hj; omega)) (by simp; omega)
        obtain ⟨O3, hd3, hg3⟩ := hw.next
        obtain ⟨bd3, bs3, va3, hblk3'⟩ := h2.blk
        have hblk3 := hblk3'.keeps kg r7
        have hlast := hd3.field (w' := (w3.setCell ⟨f, 0, none⟩ v').setCell ⟨D, 6, none⟩ (.int .i64 (k.used + b.length))) (k' := { k.burn.upd f ⟨(k.got f).data ++ b, (k.got f).safe⟩ with used := k.used + b.length }) (Keeps.setCell (S := fun j => j = D) (Keeps.refl _ _) (p := ⟨D, 6, none⟩) (.inl rfl) _) (fun bd bs va h => h.set_ 6 _) ⟨rfl, rfl, rfl, rfl, rfl, rfl⟩
        have hgo : Goes w2 B D O (k.burn.more f b) ((w3.setCell ⟨f, 0, none⟩ v').setCell ⟨D, 6, none⟩ (.int .i64 (k.used + b.length))) := by
          refine hg3 _ _ (Goes.same ?_ hlast.2)
          have := hlast.1.roomier
          unfold Dk.more Dk.got
          rw [(burn_same k).2.2.2.1, (burn_same k).2.2.2.2.2.1]
          exact this
        have hgo' := Lib.hid hgo
        have e1 : (dappOp _ _ _).run Tryz.prog _ = _ := e3
        have qc := r1.cell
        have qf := r1'.frozen
        have qcf3 := r1'.cell
        have qc3 := hblk3.cell
        have qf3 := hblk3.frozen
        unfold dcells at qc3
        have hbu : k.burn.used = k.used := (burn_same k).2.2.2.2.2.1
        rw [hbu] at qc3
        subst hv'
        clear hw r9 r2 hB' hd1 h2 hlast hd3 hg3 hblk3 hblk3' hbu e3 hb2 hb
        unfold errDown
        go_wp2
        go_ret
        refine ⟨rfl, ?_⟩
        rw [hC'.out]
        exact Goes.at (bdrewN b1 nq) (Goes.behind k2 hgo'.out)
  · have hne : (k.findE s.data.toList == 0) = false := by simpa using h
    simp only [h, if_false] at hC ⊢
    generalize k.findE s.data.toList = E at *
    have hC' := Lib.hid hC
    have h0 := Lib.hid h
    clear hC h
    go_enter Tryz.func21, Tryz.ntmps21
    go_wp2_with fail
    refine hF'.out.mono ?_
    rintro e w1 ⟨rfl, b1⟩
    go_wp2
    go_ret
    exact ⟨rfl, by rw [hC'.out]; exact Goes.same (hd.later b1) (.of_below b1)⟩
end Go.Proofs.YtabcdodjkfknlaaGreatDoor
