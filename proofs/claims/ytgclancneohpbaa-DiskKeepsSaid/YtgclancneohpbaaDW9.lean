/- Bytes in memory; a file of a disk that is turned. -/
import Derived.Test.YtgclancneohpbaaDW8
import Derived.Laws.OwnMore
namespace Go.Proofs.Ytgclancneohpbaa
open Go.RowKit Go.Maps Go.Shelf
/-- bytes that lie somewhere -/
def Bytes0 (w : World) (v : Value) (l : List UInt8) : Prop := (v = .slice none 0 0 ∧ l = []) ∨ ∃ g o c, v = .slice (some ⟨g, o, none⟩) l.length c ∧ l.length ≤ c ∧ ∀ i x, l[i]? = some x → w.cell? ⟨g, o + i, none⟩ = some (.int .u8 x.toNat)
/-- bytes that lie somewhere, or none of them, anywhere -/
def Bytes (w : World) (v : Value) (l : List UInt8) : Prop := Bytes0 w v l ∨ ∃ a c, v = .slice (some a) 0 c ∧ l = []
theorem bcells_length (l : List UInt8) : (bcells l).length = l.length := by simp [bcells]
theorem bcells_append (l l' : List UInt8) : bcells (l ++ l') = bcells l ++ bcells l' := by simp [bcells]
theorem bcells_get (l : List UInt8) (i : Nat) : (bcells l)[i]? = (l[i]?).map fun x => .int .u8 x.toNat := by simp [bcells]
theorem bcells_one (l : List UInt8) : ∀ u ∈ bcells l, u.oneCell' = true := by
  intro u hu
  unfold bcells at hu
  obtain ⟨x, _, rfl⟩ := List.mem_map.1 hu
  rfl
theorem Bytes0.of_own {w : World} {B : Nat} {v : Value} {l : List UInt8} (h : w.ownsRow B 5 1 v l.length (bcells l)) : Bytes0 w v l := by
  obtain ⟨_, ⟨rfl, h0⟩ | ⟨g, cap, cur, rfl, h1, h2, h3, h4, h5, h6⟩⟩ := id h
  · exact .inl ⟨rfl, List.eq_nil_of_length_eq_zero h0⟩
  · refine .inr ⟨g, 0, cap, rfl, h3, fun i x hx => ?_⟩
    have hi : i < l.length := by
      rcases Nat.lt_or_ge i l.length with h | h
      · exact h
      · rw [List.getElem?_eq_none h] at hx; cases hx
    rw [Nat.zero_add, h.cellAt i (by omega), bcells_get, hx]; rfl
theorem Bytes.of_own {w : World} {B : Nat} {v : Value} {l : List UInt8} (h : w.ownsRow B 5 1 v l.length (bcells l)) : Bytes w v l := .inl (Bytes0.of_own h)
theorem cell_lt {w : World} {g o : Nat} {v : Value} (h : w.cell? ⟨g, o, none⟩ = some v) : g < w.heap.size := by
  rcases Nat.lt_or_ge g w.heap.size with hlt | hge
  · exact hlt
  · unfold World.cell? at h; rw [Array.getElem?_eq_none hge] at h; cases h
theorem Bytes.keepsP {S : Nat → Prop} {w w' : World} {v : Value} {l : List UInt8} (h : Bytes w v l) (hk : Keeps S w w') (hs : ∀ g, v.ownBlock = some g → l ≠ [] → ¬ S g) : Bytes w' v l := by
  rcases h with (h | ⟨g, o, c, rfl, hc, h⟩) | h
  · exact .inl (.inl h)
  · refine .inl (.inr ⟨g, o, c, rfl, hc, fun i x hx => ?_⟩)
    rw [World.cell?_of_block (hk.block g (cell_lt (h i x hx)) (hs g rfl (fun e => by rw [e] at hx; cases hx)))]; exact h i x hx
  · exact .inr h
theorem Bytes.keeps {S : Nat → Prop} {w w' : World} {v : Value} {l : List UInt8} (h : Bytes w v l) (hk : Keeps S w w') (hs : ∀ g, v.ownBlock = some g → ¬ S g) : Bytes w' v l := by
  rcases h with (h | ⟨g, o, c, rfl, hc, h⟩) | h
  · exact .inl (.inl h)
  · exact .inl (.inr ⟨g, o, c, rfl, hc, fun i x hx => by rw [World.cell?_of_block (hk.block g (cell_lt (h i x hx)) (hs g rfl))]; exact h i x hx⟩)
  · exact .inr h
theorem Bytes.later {w w' : World} {v : Value} {l : List UInt8} (h : Bytes w v l) (hb : Below w.heap.size w w') : Bytes w' v l := h.keeps (S := fun _ => False) (.of_below hb) (fun _ _ => id)
theorem Bytes.slice {w : World} {v : Value} {l : List UInt8} (h : Bytes w v l) : ∃ p c, v = .slice p l.length c := by
  rcases h with (⟨rfl, rfl⟩ | ⟨g, o, c, rfl, _, _⟩) | ⟨a, c, rfl, rfl⟩
  · exact ⟨_, _, rfl⟩
  · exact ⟨_, _, rfl⟩
  · exact ⟨_, _, rfl⟩
theorem info_u8 : (Try.prog.info? 5).map (fun i => (i.zero, i.size, i.bytes)) = some (some (.int .u8 0), 1, 1) := by kernel_rfl
/-- bytes behind bytes -/
theorem bytes_append {w : World} {B : Nat} {v b : Value} {l l' : List UInt8} (h : w.ownsRow B 5 1 v l.length (bcells l)) (hb : Bytes w b l') (hn : l.length + l'.length ≤ 100000000000) (hB : B ≤ w.heap.size) :
    ∃ v' w', (Builtin.append_ #[51, 51] 51 #[v, b]).run Try.prog w = .ok v' w' ∧ w'.ownsRow B 5 1 v' (l ++ l').length (bcells (l ++ l')) ∧ w.grownBy w' v.ownBlock ∧ (v'.ownBlock = v.ownBlock ∨ v'.ownBlock = some w.heap.size) := by
  obtain ⟨i0, hi, hz0, hz1, hz2⟩ := info_parts info_u8
  rcases hb with (⟨rfl, rfl⟩ | ⟨g, o, c, rfl, _, hc⟩) | ⟨a, c, rfl, rfl⟩
  · refine ⟨v, w, run_append_owned_none w B _ _ _ i0 1 Try.underlying51 hi v l.length _ h, by simpa using h, ⟨rfl, rfl, rfl, Nat.le_refl _, fun _ _ _ => rfl⟩, .inl rfl⟩
  · obtain ⟨v', w', h2, h3, h4, _, h5⟩ := run_append_own_at (P := Try.prog) w B 51 51 5 i0 (.int .u8 0) 1 1 Try.underlying51 hi hz0 hz1 hz2 rfl (by decide) v l.length _ h ⟨g, o, none⟩ l'.length c (bcells l') (by rw [bcells_length, Nat.mul_one]) (by
      intro j u hj
      rw [bcells_get] at hj
      cases hx : l'[j]? with
      | none => rw [hx] at hj; cases hj
      | some x =>
        rw [hx] at hj
        obtain rfl := Option.some.inj hj
        rw [Addr.add_lit]
        exact hc j x hx) (bcells_one l') (by unfold maxLen; omega) (by omega) hB
    exact ⟨v', w', h2, by rw [List.length_append, bcells_append]; exact h3, h4, h5⟩
  · obtain ⟨v', w', h2, h3, h4, _, h5⟩ := run_append_own_at (P := Try.prog) w B 51 51 5 i0 (.int .u8 0) 1 1 Try.underlying51 hi hz0 hz1 hz2 rfl (by decide) v l.length _ h a 0 c [] rfl (fun j u hj => by simp at hj) (fun u hu => by simp at hu) (by unfold maxLen; simp at hn; omega) (by simp at hn; omega) hB
    exact ⟨v', w', h2, by rw [List.append_nil]; simpa using h3, h4, h5⟩
theorem Goes.next {w w1 : World} {B D : Nat} {O : Nat → Prop} {k1 : Dk} (h : Goes w B D O k1 w1) : ∃ O1, Disk w1 B D O1 k1 ∧ ∀ k2 w2, Goes w1 B D O1 k2 w2 → Goes w B D O k2 w2 := by
  obtain ⟨⟨O1, h1, h2⟩, h3⟩ := h
  refine ⟨O1, h1, fun k2 w2 ⟨⟨O2, h4, h5⟩, h6⟩ => ⟨⟨O2, h4, fun j hj => ?_⟩, h3.step h6 h2⟩⟩
  have := h3.size
  rcases h5 j hj with h | h
  · exact h2 j h
  · exact .inr (by omega)
theorem Goes.behind {w w1 w' : World} {B D : Nat} {O : Nat → Prop} {k : Dk} (hk : Keeps O w w1) (h : Goes w1 B D O k w') : Goes w B D O k w' := by
  obtain ⟨⟨O', h1, h2⟩, h3⟩ := h
  have := hk.size
  exact ⟨⟨O', h1, fun j hj => (h2 j hj).imp id (fun h => by omega)⟩, hk.trans h3⟩
/-- a file is turned -/
theorem Disk.refile {w : World} {B D : Nat} {O : Nat → Prop} {k : Dk} (h : Disk w B D O k) {f : Nat} {x : File} (hf : k.file f = some x) : ∃ v, Blk w f 94 #[v, .int .i64 x.safe] ∧ w.ownsRow B 5 1 v x.data.length (bcells x.data) ∧ x.safe ≤ x.data.length ∧ B ≤ f ∧ O f ∧ (∀ j, v.ownBlock = some j → O j) ∧ v.ownBlock ≠ some D ∧ f ≠ D ∧
    ∀ w' v' x', Keeps (fun j => j = f ∨ v.ownBlock = some j) w w' → Blk w' f 94 #[v', .int .i64 x'.safe] → w'.ownsRow B 5 1 v' x'.data.length (bcells x'.data) → (∀ b, v'.ownBlock = some b → v.ownBlock = some b ∨ w.heap.size ≤ b) → x'.safe ≤ x'.data.length → Goes w B D O (k.upd f x') w' := by
  have hlt := h.lt
  obtain ⟨bd, bs, n, va, rows, hd, hn, rfl⟩ := h
  obtain ⟨f1, f2, f3, f4⟩ := hd.file f x hf
  have hOf : dset D bd bs va rows k f := .inr (.inr (.inr (.inr ⟨f, x, hf, .inl rfl⟩)))
  have hOv : ∀ j, (rows f).ownBlock = some j → dset D bd bs va rows k j := fun j hj => .inr (.inr (.inr (.inr ⟨f, x, hf, .inr hj⟩)))
  refine ⟨rows f, f2, f3, f4, f1, hOf, hOv, own_blk_ne f3 hd.blk (by decide), f2.ne_ hd.blk (by decide), ?_⟩
  intro w' v' x' hk hb ho hl hs
  obtain ⟨X, h1, h2⟩ := hd.dir
  obtain ⟨Y, h3, h4⟩ := hd.safe
  have hu : ∀ j y, (k.upd f x').file j = some y → (j = f ∧ y = x') ∨ (j ≠ f ∧ k.file j = some y) := by
    intro j y hj
    unfold Dk.upd at hj
    simp only at hj
    split at hj
    · rename_i e; exact .inl ⟨e, (Option.some.inj hj).symm⟩
    · rename_i e; exact .inr ⟨e, hj⟩
  have hblk : ∀ {j t cs}, Blk w j t cs → t ≠ 94 → t ≠ 5 → Blk w' j t cs := by
    intro j t cs hj n1 n2
    refine hj.keeps hk ?_
    rintro (e | e)
    · exact hj.ne_ f2 n1 e
    · exact own_blk_ne f3 hj (fun e => n2 e.symm) e
  have hmap : ∀ {b n : Nat} {X : DataW Unit}, w.ownsMap Try.prog 9 ptrR b n X → w'.ownsMap Try.prog 9 ptrR b n X := by
    intro b n X hX
    refine map_keeps hX hk ?_
    rintro (e | e)
    · exact map_ne hX f2 e
    · exact own_map_ne f3 hX e
  have hacts : w'.ownsRow B 96 3 va k.acts.length (acells k.acts) := by
    refine own_keeps hd.acts hk (fun g hg => ?_)
    obtain ⟨_, _, _, r⟩ := hd.row_ne
    obtain ⟨r1, r2⟩ := r f x hf
    rintro (e | e)
    · exact r1 (by rw [hg, e])
    · exact r2 g e hg
  refine ⟨⟨_, ⟨bd, bs, n, va, fun j => if j = f then v' else rows j, ⟨hblk hd.blk (by decide) (by decide), ⟨X, hmap h1, h2⟩, ⟨Y, hmap h3, h4⟩, hd.two, hacts, ?_, ?_, hd.base⟩, hn, rfl⟩, ?_⟩, ?_⟩
  · intro f' y hy
    rcases hu f' y hy with ⟨rfl, rfl⟩ | ⟨hne, hy⟩
    · rw [if_pos rfl]
      exact ⟨f1, hb, ho, hs⟩
    · rw [if_neg hne]
      obtain ⟨g1, g2, g3, g4⟩ := hd.file f' y hy
      refine ⟨g1, g2.keeps hk ?_, own_keeps g3 hk ?_, g4⟩
      · rintro (e | e)
        · exact hne e
        · exact own_blk_ne f3 g2 (by decide) e
      · rintro g hg (e | e)
        · exact own_blk_ne g3 f2 (by decide) (by rw [hg, e])
        · exact hne (hd.apart f' f y x g hy hf hg e)
  · intro f1' f2' y1 y2 b hy1 hy2 hb1 hb2
    have hfar : ∀ f' y, f' ≠ f → k.file f' = some y → v'.ownBlock = some b → (rows f').ownBlock = some b → False := by
      intro f' y hne hy e1 e2
      rcases hl b e1 with e | e
      · exact hne (hd.apart f' f y x b hy hf e2 e)
      · have := hlt b (.inr (.inr (.inr (.inr ⟨f', y, hy, .inr e2⟩)))); omega
    rcases hu f1' y1 hy1 with ⟨rfl, rfl⟩ | ⟨hne1, hz1⟩
    · rw [if_pos rfl] at hb1
      rcases hu f2' y2 hy2 with ⟨rfl, rfl⟩ | ⟨hne2, hy2⟩
      · rfl
      · rw [if_neg hne2] at hb2
        exact (hfar f2' y2 hne2 hy2 hb1 hb2).elim
    · rw [if_neg hne1] at hb1
      rcases hu f2' y2 hy2 with ⟨rfl, rfl⟩ | ⟨hne2, hy2⟩
      · rw [if_pos rfl] at hb2
        exact (hfar f1' y1 hne1 hz1 hb2 hb1).elim
      · rw [if_neg hne2] at hb2
        exact hd.apart f1' f2' y1 y2 b hz1 hy2 hb1 hb2
  · rintro j (h | h | h | h | ⟨f', y, hy, h⟩)
    · exact .inl (.inl h)
    · exact .inl (.inr (.inl h))
    · exact .inl (.inr (.inr (.inl h)))
    · exact .inl (.inr (.inr (.inr (.inl h))))
    · rcases hu f' y hy with ⟨rfl, rfl⟩ | ⟨hne, hy⟩
      · change j = f' ∨ (if f' = f' then v' else rows f').ownBlock = some j at h
        rw [if_pos rfl] at h
        rcases h with rfl | h
        · exact .inl hOf
        · rcases hl j h with e | e
          · exact .inl (hOv j e)
          · exact .inr e
      · change j = f' ∨ (if f' = f then v' else rows f').ownBlock = some j at h
        rw [if_neg hne] at h
        exact .inl (.inr (.inr (.inr (.inr ⟨f', y, hy, h⟩))))
  · refine hk.mono ?_
    rintro j _ (rfl | e)
    · exact hOf
    · exact hOv j e
def Dk.name (k : Dk) (s : List UInt8) : Nat := (k.dir s).getD 0
def Dk.got (k : Dk) (f : Nat) : File := (k.file f).getD ⟨[], 0⟩
theorem findE_got {k : Dk} {s : List UInt8} (hk : k.ok) (h : k.findE s = 0) : k.down = false ∧ dName s = true ∧ k.dir s = some (k.name s) ∧ k.findF s = some (k.name s) ∧ k.file (k.name s) = some (k.got (k.name s)) := by
  obtain ⟨h1, h2, f, h3, h4⟩ := findE_ok h
  have hn : k.name s = f := by unfold Dk.name; rw [h3]; rfl
  obtain ⟨x, hx⟩ := Option.isSome_iff_exists.1 (hk.live s f h3)
  rw [hn]
  refine ⟨h1, h2, h3, h4, ?_⟩
  unfold Dk.got
  rw [hx]; rfl
end Go.Proofs.Ytgclancneohpbaa
