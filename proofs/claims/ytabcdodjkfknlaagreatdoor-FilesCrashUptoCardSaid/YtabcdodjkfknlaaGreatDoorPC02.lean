/- What a crash leaves of a disk on which Start was under way. No program in sight. Start, a fuse, Start, a crash, Load: what Load tells. No program in sight. -/
import Derived.Test.YtabcdodjkfknlaaGreatDoorPT03
import Derived.Test.YtabcdodjkfknlaaGreatDoorPC01
namespace Go.Proofs.YtabcdodjkfknlaaGreatDoor
/-- what a disk has, down or not -/
structure Co (q : RD) (F : List File) (d sf : RDir) (a : List RAct) : Prop where
  cap : q.cap = 16777216
  files : q.files = F
  dir : q.dir = d
  safe : q.safe = sf
  acts : q.acts = a
structure UpC (q : RD) (F : List File) (d sf : RDir) (a : List RAct) : Prop extends Co q F d sf a where
  up : q.down = false
section
variable {q : RD} {F : List File} {d sf : RDir} {a : List RAct} {s b : List UInt8}
theorem UpC.burn (h : UpC q F d sf a) : (q.burns = false ∧ Co q.burn F d sf a) ∨ (q.burns = true ∧ UpC q.burn F d sf a) := by
  obtain ⟨⟨h1, h2, h3, h4, h5⟩, h6⟩ := h
  unfold RD.burns RD.burn
  by_cases h0 : q.left = 0
  · left
    rw [if_pos h0, h0]
    exact ⟨rfl, h1, h2, h3, h4, h5⟩
  · right
    rw [if_neg h0]
    refine ⟨by simpa using h0, ?_⟩
    split
    · exact ⟨⟨h1, h2, h3, h4, h5⟩, h6⟩
    · exact ⟨⟨h1, h2, h3, h4, h5⟩, h6⟩
theorem UpC.findE (h : UpC q F d sf a) (hs : dName s = true) : q.findE s = if (rfind d s).isSome then 0 else 4 := by
  unfold RD.findE RD.may
  rw [h.up, hs, h.dir]
  simp
theorem UpC.create (h : UpC q F d sf a) (hs : dName s = true) (hn : rfind d s = none) : (q.createE s = 6 ∧ Co (q.create s) F d sf a) ∨ (q.createE s = 0 ∧ UpC (q.create s) (F ++ [⟨[], 0⟩]) (rset d s (some F.length)) sf (a ++ [⟨[], s, F.length⟩])) := by
  have hf : q.findE s = 4 := by rw [h.findE hs, hn]; rfl
  have hr : rdone d ⟨[], s, F.length⟩ = rset d s (some F.length) := by unfold rdone; rw [if_neg (dName_nil hs), if_pos rfl]
  unfold RD.createE RD.create
  rw [hf, if_neg (by decide), if_pos rfl]
  simp only [if_true]
  rcases h.burn with ⟨b1, b2⟩ | ⟨b1, b2⟩
  · left
    rw [b1]
    exact ⟨rfl, by simpa using b2⟩
  · right
    rw [b1]
    refine ⟨rfl, ?_⟩
    unfold RD.act
    simp only [if_true]
    obtain ⟨⟨c1, c2, c3, c4, c5⟩, c6⟩ := b2
    exact ⟨⟨c1, by rw [h.files], by show rdone q.burn.dir _ = _; rw [c3, h.files, hr], c4, by show q.burn.acts ++ _ = _; rw [c5, h.files]⟩, c6⟩
theorem UpC.found (h : UpC q F d sf a) (hs : dName s = true) {i : Nat} (hi : rfind d s = some i) : q.findE s = 0 ∧ q.num s = i ∧ q.got i = F.getD i ⟨[], 0⟩ := by
  refine ⟨by rw [h.findE hs, hi]; rfl, by unfold RD.num; rw [h.dir, hi]; rfl, by unfold RD.got; rw [h.files]⟩
theorem UpC.append (h : UpC q F d sf a) (hs : dName s = true) {i : Nat} (hi : rfind d s = some i) (hroom : rsum F (rnums d) + b.length ≤ 16777216) :
    (q.appE s b.length = 6 ∧ Co (q.append s b) F d sf a) ∨ (q.appE s b.length = 0 ∧ UpC (q.append s b) (F.set i ⟨(F.getD i ⟨[], 0⟩).data ++ b, (F.getD i ⟨[], 0⟩).safe⟩) d sf a) := by
  obtain ⟨f1, f2, f3⟩ := h.found hs hi
  have hu : q.used = rsum F (rnums d) := by unfold RD.used; rw [h.files, h.dir]
  unfold RD.appE RD.append
  rw [if_pos f1, if_pos f1, hu, h.cap, if_neg (by omega), if_neg (by omega), f2, f3]
  rcases h.burn with ⟨b1, b2⟩ | ⟨b1, b2⟩
  · left
    rw [b1]
    exact ⟨rfl, by simpa using b2⟩
  · right
    rw [b1, if_pos rfl]
    obtain ⟨⟨c1, c2, c3, c4, c5⟩, c6⟩ := b2
    exact ⟨rfl, ⟨c1, by rw [h.files], c3, c4, c5⟩, c6⟩
theorem UpC.sync (h : UpC q F d sf a) (hs : dName s = true) {i : Nat} (hi : rfind d s = some i) :
    (q.syncE s = 6 ∧ Co (q.sync s) F d sf a) ∨ (q.syncE s = 0 ∧ UpC (q.sync s) (F.set i ⟨(F.getD i ⟨[], 0⟩).data, (F.getD i ⟨[], 0⟩).data.length⟩) d sf a) := by
  obtain ⟨f1, f2, f3⟩ := h.found hs hi
  unfold RD.syncE RD.sync
  rw [if_pos f1, if_pos f1, f2, f3]
  rcases h.burn with ⟨b1, b2⟩ | ⟨b1, b2⟩
  · left
    rw [b1]
    exact ⟨rfl, by simpa using b2⟩
  · right
    rw [b1, if_pos rfl]
    obtain ⟨⟨c1, c2, c3, c4, c5⟩, c6⟩ := b2
    exact ⟨rfl, ⟨c1, by rw [h.files], c3, c4, c5⟩, c6⟩
theorem UpC.syncDir (h : UpC q F d sf a) : (q.syncDirE = 6 ∧ Co q.syncDir F d sf a) ∨ (q.syncDirE = 0 ∧ UpC q.syncDir F d d []) := by
  unfold RD.syncDirE RD.syncDir
  rw [if_neg (by rw [h.up]; simp), if_neg (by rw [h.up]; simp)]
  rcases h.burn with ⟨b1, b2⟩ | ⟨b1, b2⟩
  · left
    rw [b1]
    exact ⟨rfl, by simpa using b2⟩
  · right
    rw [b1, if_pos rfl]
    obtain ⟨⟨c1, c2, c3, c4, c5⟩, c6⟩ := b2
    exact ⟨rfl, ⟨c1, c2, c3, c3, rfl⟩, c6⟩
theorem UpC.rename (h : UpC q F d sf a) {t : List UInt8} (hs : dName s = true) (ht : dName t = true) {i : Nat} (hi : rfind d s = some i) :
    (q.renameE s t = 6 ∧ Co (q.rename s t) F d sf a) ∨ (q.renameE s t = 0 ∧ UpC (q.rename s t) F (rset (rset d s none) t (some i)) sf (a ++ [⟨s, t, i⟩])) := by
  obtain ⟨f1, f2, f3⟩ := h.found hs hi
  have hm : q.may (dName s && dName t) = 0 := by unfold RD.may; rw [h.up, hs, ht]; rfl
  have hr : rdone d ⟨s, t, i⟩ = rset (rset d s none) t (some i) := by unfold rdone; rw [if_neg (dName_nil ht), if_neg (dName_nil hs)]
  unfold RD.renameE RD.rename
  rw [if_pos hm, if_pos hm, if_pos f1, if_pos f1, f2]
  rcases h.burn with ⟨b1, b2⟩ | ⟨b1, b2⟩
  · left
    rw [b1]
    exact ⟨rfl, by simpa using b2⟩
  · right
    rw [b1, if_pos rfl]
    obtain ⟨⟨c1, c2, c3, c4, c5⟩, c6⟩ := b2
    exact ⟨rfl, ⟨c1, c2, by show rdone q.burn.dir _ = _; rw [c3, hr], c4, by show q.burn.acts ++ _ = _; rw [c5]⟩, c6⟩
theorem UpC.gone (h : UpC q F d sf a) (hs : dName s = true) (hn : rfind d s = none) : q.removeE s = 4 ∧ q.remove s = q := by
  have hf : q.findE s = 4 := by rw [h.findE hs, hn]; rfl
  unfold RD.removeE RD.remove
  rw [if_neg (by rw [hf]; decide), if_neg (by rw [hf]; decide)]
  exact ⟨hf, rfl⟩
/-- a file laid, up to where the fuse lets it -/
theorem UpC.lay (h : UpC q F d sf a) (hsd : RSorted d) (hs : dName s = true) (hn : rfind d s = none) (hroom : rsum (F ++ [⟨[], 0⟩]) (rnums (rset d s (some F.length))) + b.length ≤ 16777216) :
    ((layR q s b).2 = 0 ∧ UpC (layR q s b).1 (F ++ [⟨b, b.length⟩]) (rset d s (some F.length)) sf (a ++ [⟨[], s, F.length⟩])) ∨
    ((layR q s b).2 = 6 ∧ (Co (layR q s b).1 F d sf a ∨ ∃ x : File, x.data.length ≤ b.length ∧ Co (layR q s b).1 (F ++ [x]) (rset d s (some F.length)) sf (a ++ [⟨[], s, F.length⟩]))) := by
  have hset : ∀ x y : File, (F ++ [x]).set F.length y = F ++ [y] := fun x y => by
    rw [List.set_append_right _ _ (Nat.le_refl _), Nat.sub_self]; rfl
  have hi : rfind (rset d s (some F.length)) s = some F.length := by rw [rfind_set hsd, if_pos rfl]
  unfold layR
  rcases h.create hs hn with ⟨e1, c1⟩ | ⟨e1, u1⟩
  · right
    rw [e1, if_pos (by decide)]
    exact ⟨rfl, .inl c1⟩
  · rw [e1, if_neg (by decide)]
    rcases u1.append (b := b) hs hi hroom with ⟨e2, c2⟩ | ⟨e2, u2⟩
    · right
      rw [e2, if_pos (by decide)]
      exact ⟨rfl, .inr ⟨_, Nat.zero_le _, c2⟩⟩
    · rw [e2, if_neg (by decide)]
      rw [hset, got_end] at u2
      rcases u2.sync hs hi with ⟨e3, c3⟩ | ⟨e3, u3⟩
      · right
        exact ⟨e3, .inr ⟨_, Nat.le_refl _, c3⟩⟩
      · left
        rw [hset, got_end] at u3
        exact ⟨e3, u3⟩
theorem rsum_le {c : Nat} (h : ∀ x ∈ F, x.data.length ≤ c) : ∀ l : List Nat, rsum F l ≤ l.length * c
  | [] => by simp [rsum]
  | i :: l => by
    rw [rsum_cons, List.length_cons, Nat.succ_mul]
    have h1 := rsum_le h l
    have h2 : rsize F i ≤ c := by
      unfold rsize
      rw [List.getD_eq_getElem?_getD]
      cases hx : F[i]? with
      | none => exact Nat.zero_le _
      | some x => exact h x (List.mem_of_getElem? hx)
    omega
end
/-- the acts of a Start, and the directory behind them -/
def actsW (n : Nat) (s : List UInt8) : List RAct := [⟨[], s, n⟩, ⟨[], freshL, n + 1⟩, ⟨freshL, currentL, n + 1⟩]
def dirW (d : RDir) (n : Nat) (s : List UInt8) : RDir := rset (rset (rset (rset d s (some n)) freshL (some (n + 1))) freshL none) currentL (some (n + 1))
theorem rnums_len (d : RDir) : (rnums d).length = d.length := by unfold rnums; rw [List.length_map]
/-- how far a Start came: not to the rename, to it, or through -/
def Came (q : RD) (F : List File) (d : RDir) (s b : List UInt8) (E : Int) : Prop :=
  (E = 0 ∧ UpC q (F ++ [⟨b, b.length⟩, ⟨s, s.length⟩]) (dirW d F.length s) (dirW d F.length s) []) ∨
  (E = 6 ∧ ∃ (G : List File) (d' : RDir) (k : Nat), (∀ x ∈ G, x.data.length ≤ 20000) ∧ k ≤ 2 ∧ Co q (F ++ G) d' d ((actsW F.length s).take k)) ∨
  (E = 6 ∧ ∃ d', Co q (F ++ [⟨b, b.length⟩, ⟨s, s.length⟩]) d' d (actsW F.length s))
theorem one_le {x : File} {c : Nat} (h : x.data.length ≤ c) : ∀ z ∈ [x], z.data.length ≤ c := fun z hz => by obtain rfl := List.mem_singleton.1 hz; exact h
theorem two_le {x y : File} {c : Nat} (h : x.data.length ≤ c) (h2 : y.data.length ≤ c) : ∀ z ∈ [x, y], z.data.length ≤ c := fun z hz => by
  rcases List.mem_cons.1 hz with rfl | hz
  · exact h
  · exact one_le h2 z hz
theorem start_came {q : RD} {F : List File} {d : RDir} {s b : List UInt8} (h : UpC q F d d []) (hsd : RSorted d) (hs : dName s = true) (hsf : s ≠ freshL) (hn : rfind d s = none) (hf : rfind d freshL = none)
    (hF : ∀ x ∈ F, x.data.length ≤ 20000) (hd : d.length ≤ 10) (hb : b.length ≤ 20000) (hsl : s.length ≤ 20000) : Came (startS q s b).1 F d s b (startS q s b).2 := by
  have sd2 := rset_sorted hsd s (some F.length)
  have l2 := rset_len hsd s (some F.length)
  have hr1 : rsum (F ++ [⟨[], 0⟩]) (rnums (rset d s (some F.length))) + b.length ≤ 16777216 := by
    have h1 := rsum_le (F := F ++ [⟨[], 0⟩]) (c := 20000) (fun x hx => by
      rcases List.mem_append.1 hx with hx | hx
      · exact hF x hx
      · obtain rfl := List.mem_singleton.1 hx; exact Nat.zero_le _) (rnums (rset d s (some F.length)))
    rw [rnums_len] at h1
    have h2 : (rset d s (some F.length)).length * 20000 ≤ 11 * 20000 := Nat.mul_le_mul_right _ (by omega)
    omega
  rcases h.lay hsd hs hn hr1 with ⟨e1, u1⟩ | ⟨e1, c1⟩
  · have e1 : (startA q s b).2 = 0 := e1
    have u1 : UpC (startA q s b).1 (F ++ [⟨b, b.length⟩]) (rset d s (some F.length)) d ([] ++ [⟨[], s, F.length⟩]) := u1
    have hf2 : rfind (rset d s (some F.length)) freshL = none := by rw [rfind_set hsd, if_neg (Ne.symm hsf)]; exact hf
    obtain ⟨g1, g2⟩ := u1.gone fresh_name hf2
    have eB : startB q s b = ((startA q s b).1, 0) := by unfold startB oldR; rw [g1, g2, if_pos rfl]
    have u2 : UpC (startB q s b).1 (F ++ [⟨b, b.length⟩]) (rset d s (some F.length)) d ([] ++ [⟨[], s, F.length⟩]) := by rw [eB]; exact u1
    have e2 : (startB q s b).2 = 0 := by rw [eB]
    have hlen : (F ++ [(⟨b, b.length⟩ : File)]).length = F.length + 1 := by simp
    have sd4 := rset_sorted sd2 freshL (some (F.length + 1))
    have l4 := rset_len sd2 freshL (some (F.length + 1))
    have hr2 : rsum ((F ++ [⟨b, b.length⟩]) ++ [⟨[], 0⟩]) (rnums (rset (rset d s (some F.length)) freshL (some (F ++ [(⟨b, b.length⟩ : File)]).length))) + s.length ≤ 16777216 := by
      rw [hlen]
      have h1 := rsum_le (F := (F ++ [⟨b, b.length⟩]) ++ [⟨[], 0⟩]) (c := 20000) (fun x hx => by
        rcases List.mem_append.1 hx with hx | hx
        · rcases List.mem_append.1 hx with hx | hx
          · exact hF x hx
          · obtain rfl := List.mem_singleton.1 hx; exact hb
        · obtain rfl := List.mem_singleton.1 hx; exact Nat.zero_le _) (rnums (rset (rset d s (some F.length)) freshL (some (F.length + 1))))
      rw [rnums_len] at h1
      have h2 : (rset (rset d s (some F.length)) freshL (some (F.length + 1))).length * 20000 ≤ 12 * 20000 := Nat.mul_le_mul_right _ (by omega)
      omega
    have hst : ∀ x, (layR (startB q s b).1 freshL s).2 = x → startS q s b = if x ≠ 0 then startC q s b else if (startD q s b).2 ≠ 0 then startD q s b else startE q s b := by
      intro x hx
      unfold startS
      rw [e1, e2, if_neg (by decide), if_neg (by decide)]
      rw [show (startC q s b).2 = x from hx]
    rcases u2.lay (b := s) sd2 fresh_name hf2 hr2 with ⟨e3, u3⟩ | ⟨e3, c3⟩
    · have u3 : UpC (startC q s b).1 ((F ++ [⟨b, b.length⟩]) ++ [⟨s, s.length⟩]) (rset (rset d s (some F.length)) freshL (some (F ++ [(⟨b, b.length⟩ : File)]).length)) d (([] ++ [⟨[], s, F.length⟩]) ++ [⟨[], freshL, (F ++ [(⟨b, b.length⟩ : File)]).length⟩]) := u3
      rw [hlen] at u3
      have hi4 : rfind (rset (rset d s (some F.length)) freshL (some (F.length + 1))) freshL = some (F.length + 1) := by rw [rfind_set sd2, if_pos rfl]
      have hFF : (F ++ [(⟨b, b.length⟩ : File)]) ++ [⟨s, s.length⟩] = F ++ [⟨b, b.length⟩, ⟨s, s.length⟩] := by simp
      rw [hst 0 e3, if_neg (by decide)]
      rcases u3.rename fresh_name cur_name hi4 with ⟨e4, c4⟩ | ⟨e4, u4⟩
      · have e4 : (startD q s b).2 = 6 := e4
        rw [e4, if_pos (by decide)]
        right; left
        rw [hFF] at c4
        exact ⟨e4, [⟨b, b.length⟩, ⟨s, s.length⟩], _, 2, two_le hb hsl, Nat.le_refl _, c4⟩
      · have e4 : (startD q s b).2 = 0 := e4
        have u4 : UpC (startD q s b).1 ((F ++ [⟨b, b.length⟩]) ++ [⟨s, s.length⟩]) (dirW d F.length s) d (actsW F.length s) := u4
        rw [e4, if_neg (by decide)]
        rw [hFF] at u4
        rcases u4.syncDir with ⟨e5, c5⟩ | ⟨e5, u5⟩
        · right; right
          exact ⟨e5, _, c5⟩
        · left
          exact ⟨e5, u5⟩
    · rw [hst 6 e3, if_pos (by decide)]
      right; left
      refine ⟨e3, ?_⟩
      rcases c3 with c | ⟨x, hx, c⟩
      · exact ⟨[⟨b, b.length⟩], _, 1, one_le hb, by decide, c⟩
      · rw [hlen] at c
        rw [show (F ++ [⟨b, b.length⟩]) ++ [x] = F ++ [⟨b, b.length⟩, x] by simp] at c
        exact ⟨[⟨b, b.length⟩, x], _, 2, two_le hb (Nat.le_trans hx hsl), by decide, c⟩
  · have e1 : (startA q s b).2 = 6 := e1
    have hst : startS q s b = startA q s b := by
      unfold startS
      rw [e1, if_pos (by decide)]
    rw [hst]
    right; left
    refine ⟨e1, ?_⟩
    rcases c1 with c | ⟨x, hx, c⟩
    · rw [← List.append_nil F] at c
      exact ⟨[], _, 0, (fun x hx => by cases hx), by decide, by rw [List.append_nil] at c ⊢; exact c⟩
    · exact ⟨[x], _, 1, one_le (Nat.le_trans hx hb), by decide, c⟩
/-- a file all of which is safe -/
def FullAt (F : List File) (i : Nat) (x : List UInt8) : Prop := F[i]? = some ⟨x, x.length⟩
theorem nextN_zero (keep : List UInt8) : nextN keep 0 = 0 := by have := nextN_le keep 0; omega
theorem FullAt.cut {F : List File} {i : Nat} {x : List UInt8} (h : FullAt F i x) (keep : List UInt8) (k : Nat) : FullAt (rcut F keep k) i x := by
  have hlt := (List.getElem?_eq_some_iff.1 h).1
  by_cases e : k = i
  · subst e
    have hg : F.getD k ⟨[], 0⟩ = ⟨x, x.length⟩ := by rw [List.getD_eq_getElem?_getD, h]; rfl
    have hn : rcutN F keep k = x.length := by
      unfold rcutN
      rw [hg]
      show x.length + nextN keep (x.length - x.length) = _
      rw [Nat.sub_self, nextN_zero]; rfl
    unfold FullAt rcut
    rw [List.getElem?_set_self hlt, hn, hg]
    show some (⟨x.take x.length, x.length⟩ : File) = _
    rw [List.take_length]
  · unfold FullAt rcut
    rw [List.getElem?_set_ne e]
    exact h
theorem FullAt.cuts {i : Nat} {x : List UInt8} : ∀ (l : List Nat) {F : List File} (keep : List UInt8), FullAt F i x → FullAt (rcuts F keep l) i x
  | [], _, _, h => h
  | k :: l, _, keep, h => FullAt.cuts l keep.tail (h.cut keep k)
theorem FullAt.app {F : List File} {i : Nat} {x : List UInt8} (h : FullAt F i x) (G : List File) : FullAt (F ++ G) i x := by
  unfold FullAt
  rw [List.getElem?_append_left (List.getElem?_eq_some_iff.1 h).1]
  exact h
/-- what counts, by the directory and the files -/
theorem loadR_at {r : RD} {n i j : Nat} {c : List UInt8} (hup : r.down = false) (hn : fname 109 n ≠ []) (h1 : rfind r.dir currentL = some i) (h2 : FullAt r.files i (fname 109 n)) (h3 : rfind r.dir (fname 109 n) = some j) (h4 : FullAt r.files j c) : loadR r = loadM n c := by
  obtain ⟨g1, _, _, _⟩ := fname_dName rfl hn
  have hm : ∀ s i, dName s = true → rfind r.dir s = some i → r.findE s = 0 := fun s i hs hi => by
    unfold RD.findE RD.may
    rw [hup, hs, hi]; rfl
  have hr : ∀ s i x, dName s = true → rfind r.dir s = some i → FullAt r.files i x → r.readB s = x := fun s i x hs hi hx => by
    unfold RD.readB RD.num RD.got
    rw [if_pos (hm s i hs hi), hi]
    show (r.files.getD i ⟨[], 0⟩).data = x
    rw [List.getD_eq_getElem?_getD, hx]; rfl
  unfold loadR
  rw [if_neg (by rw [hm _ _ cur_name h1]; simp), hr _ _ _ cur_name h1 h2, fnum_of rfl hn, hm _ _ g1 h3, hr _ _ _ g1 h3 h4]
  show (if (109 : UInt8) ≠ 109 then _ else if (0 : Int) ≠ 0 then _ else loadM n c) = _
  rw [if_neg (by simp), if_neg (by simp)]
theorem rdone_other {d : RDir} (h : RSorted d) {a : RAct} {t : List UInt8} (h1 : a.frm ≠ t) (h2 : a.to ≠ t) : rfind (rdone d a) t = rfind d t := by
  have e1 : rfind (if a.frm = [] then d else rset d a.frm none) t = rfind d t := by
    split
    · rfl
    · rw [rfind_set h, if_neg (Ne.symm h1)]
  have hs : RSorted (if a.frm = [] then d else rset d a.frm none) := by
    split
    · exact h
    · exact rset_sorted h _ _
  unfold rdone
  split
  · exact e1
  · rw [rfind_set hs, if_neg (Ne.symm h2)]; exact e1
theorem foldl_other {t : List UInt8} : ∀ (l : List RAct) {d : RDir}, RSorted d → (∀ a ∈ l, a.frm ≠ t ∧ a.to ≠ t) → rfind (l.foldl rdone d) t = rfind d t
  | [], _, _, _ => rfl
  | a :: l, d, h, hl => by
    obtain ⟨h1, h2⟩ := hl a (by simp)
    rw [List.foldl_cons, foldl_other l (rdone_sorted h a) fun b hb => hl b (by simp [hb]), rdone_other h h1 h2]
theorem nextN_mono {keep : List UInt8} {n : Nat} : nextN keep n ≤ n := nextN_le keep n
/-- what counts ahead: a name and its manifest, safe -/
structure Counts (F : List File) (d : RDir) (n : Nat) (c : List UInt8) : Prop where
  sd : RSorted d
  cur : ∃ i, rfind d currentL = some i ∧ FullAt F i (fname 109 n)
  man : ∃ j, rfind d (fname 109 n) = some j ∧ FullAt F j c
theorem Counts.load {F : List File} {d : RDir} {n : Nat} {c : List UInt8} (h : Counts F d n c) (hn : fname 109 n ≠ []) {r : RD} (hup : r.down = false) (hd : r.dir = d) (hF : ∀ i x, FullAt F i x → FullAt r.files i x) : loadR r = loadM n c := by
  obtain ⟨i, h1, h2⟩ := h.cur
  obtain ⟨j, h3, h4⟩ := h.man
  exact loadR_at hup hn (by rw [hd]; exact h1) (hF _ _ h2) (by rw [hd]; exact h3) (hF _ _ h4)
theorem actsW_two {n k : Nat} {s t : List UInt8} (hk : k ≤ 2) (h1 : t ≠ []) (h2 : t ≠ s) (h3 : t ≠ freshL) : ∀ a ∈ (actsW n s).take k, a.frm ≠ t ∧ a.to ≠ t := by
  intro a ha
  have h4 : a ∈ (actsW n s).take 2 := by
    have : (actsW n s).take k = ((actsW n s).take 2).take k := by rw [List.take_take, Nat.min_eq_left hk]
    rw [this] at ha
    exact List.mem_of_mem_take ha
  have h5 : a = ⟨[], s, n⟩ ∨ a = ⟨[], freshL, n + 1⟩ := by
    have h6 : a ∈ [(⟨[], s, n⟩ : RAct), ⟨[], freshL, n + 1⟩] := h4
    simpa using h6
  rcases h5 with rfl | rfl
  · exact ⟨Ne.symm h1, Ne.symm h2⟩
  · exact ⟨Ne.symm h1, Ne.symm h3⟩
/-- behind a crash with no more than the first two acts what counted ahead counts -/
theorem Counts.stays {F G : List File} {d : RDir} {n m k : Nat} {s c : List UInt8} (h : Counts F d n c) (hk : k ≤ 2) (hn : fname 109 n ≠ []) (hs : s ≠ fname 109 n) (hsc : s ≠ currentL) : Counts (F ++ G) (((actsW m s).take k).foldl rdone d) n c := by
  obtain ⟨_, _, g3, g4⟩ := fname_dName rfl hn
  obtain ⟨i, h1, h2⟩ := h.cur
  obtain ⟨j, h3, h4⟩ := h.man
  refine ⟨?_, ⟨i, ?_, h2.app G⟩, ⟨j, ?_, h4.app G⟩⟩
  · have : ∀ (l : List RAct) {d : RDir}, RSorted d → RSorted (l.foldl rdone d) := by
      intro l
      induction l with
      | nil => exact fun h => h
      | cons a l ih => exact fun h => ih (rdone_sorted h a)
    exact this _ h.sd
  · rw [foldl_other _ h.sd (actsW_two hk (by decide) (Ne.symm hsc) (Ne.symm cur_fresh))]; exact h1
  · rw [foldl_other _ h.sd (actsW_two hk hn (Ne.symm hs) g4)]; exact h3
theorem actsW_fold (d : RDir) (n : Nat) {s : List UInt8} (hs : s ≠ []) : (actsW n s).foldl rdone d = dirW d n s := by
  have e1 : rdone d ⟨[], s, n⟩ = rset d s (some n) := by unfold rdone; rw [if_neg hs, if_pos rfl]
  have e2 : ∀ d', rdone d' ⟨[], freshL, n + 1⟩ = rset d' freshL (some (n + 1)) := fun d' => by unfold rdone; rw [if_neg (show freshL ≠ [] by decide), if_pos rfl]
  have e3 : ∀ d', rdone d' ⟨freshL, currentL, n + 1⟩ = rset (rset d' freshL none) currentL (some (n + 1)) := fun d' => by unfold rdone; rw [if_neg (show currentL ≠ [] by decide), if_neg (show freshL ≠ [] by decide)]
  show rdone (rdone (rdone d ⟨[], s, n⟩) ⟨[], freshL, n + 1⟩) ⟨freshL, currentL, n + 1⟩ = _
  rw [e1, e2, e3]
  rfl
/-- behind a Start that came through its rename the new version counts -/
theorem counts_new {F : List File} {d : RDir} {k : Nat} {c : List UInt8} (hd : RSorted d) (hn : fname 109 k ≠ []) : Counts (F ++ [⟨c, c.length⟩, ⟨fname 109 k, (fname 109 k).length⟩]) (dirW d F.length (fname 109 k)) k c := by
  obtain ⟨_, _, g3, g4⟩ := fname_dName rfl hn
  have s1 := rset_sorted hd (fname 109 k) (some F.length)
  have s2 := rset_sorted s1 freshL (some (F.length + 1))
  have s3 := rset_sorted s2 freshL none
  refine ⟨rset_sorted s3 _ _, ⟨F.length + 1, ?_, ?_⟩, ⟨F.length, ?_, ?_⟩⟩
  · show rfind (rset _ currentL _) currentL = _
    rw [rfind_set s3, if_pos rfl]
  · unfold FullAt
    rw [List.getElem?_append_right (by omega), show F.length + 1 - F.length = 1 by omega]
    rfl
  · show rfind (rset _ currentL _) _ = _
    rw [rfind_set s3, if_neg g3, rfind_set s2, if_neg g4, rfind_set s1, if_neg g4, rfind_set hd, if_pos rfl]
  · unfold FullAt
    rw [List.getElem?_append_right (Nat.le_refl _), Nat.sub_self]
    rfl
theorem crash_files (r : RD) (keep : List UInt8) : ∀ i x, FullAt r.files i x → FullAt (r.crash keep).files i x := fun _ _ h => FullAt.cuts _ _ h
theorem crash_dir {q : RD} {F : List File} {d sf : RDir} {a : List RAct} (h : Co q F d sf a) (keep : List UInt8) : ∃ j, j ≤ a.length ∧ (q.crash keep).dir = (a.take j).foldl rdone sf := by
  refine ⟨nextN keep a.length, nextN_le _ _, ?_⟩
  show q.kept keep = _
  unfold RD.kept
  rw [h.acts, h.safe]
/-- what a crash leaves of a Start: what counted ahead, or what Start would have told; behind OK, that -/
theorem came_crash {q : RD} {F : List File} {d : RDir} {n k : Nat} {c b : List UInt8} {E : Int} (h : Came q F d (fname 109 k) b E) (hc : Counts F d n c) (hn : fname 109 n ≠ []) (hk : fname 109 k ≠ []) (hne : fname 109 k ≠ fname 109 n) (keep : List UInt8) :
    (E = 0 ∧ loadR (q.crash keep) = loadM k b) ∨ (E = 6 ∧ (loadR (q.crash keep) = loadM n c ∨ loadR (q.crash keep) = loadM k b)) := by
  obtain ⟨_, _, g3, g4⟩ := fname_dName rfl hk
  rcases h with ⟨rfl, u⟩ | ⟨rfl, G, d', m, _, hm, co⟩ | ⟨rfl, d', co⟩
  · left
    refine ⟨rfl, ?_⟩
    obtain ⟨j, hj, hdir⟩ := crash_dir u.toCo keep
    have hj0 : j = 0 := by simpa using hj
    subst hj0
    have hdir : (q.crash keep).dir = dirW d F.length (fname 109 k) := hdir
    exact (counts_new (c := b) hc.sd hk).load hk rfl hdir fun i x hx => crash_files q keep i x (by rw [u.files]; exact hx)
  · right
    refine ⟨rfl, .inl ?_⟩
    obtain ⟨j, hj, hdir⟩ := crash_dir co keep
    rw [List.take_take] at hdir
    exact (hc.stays (G := G) (m := F.length) (k := min j m) (s := fname 109 k) (by omega) hn hne g3).load hn rfl hdir fun i x hx => crash_files q keep i x (by rw [co.files]; exact hx)
  · right
    refine ⟨rfl, ?_⟩
    obtain ⟨j, hj, hdir⟩ := crash_dir co keep
    by_cases h2 : j ≤ 2
    · left
      exact (hc.stays (G := [⟨b, b.length⟩, ⟨fname 109 k, (fname 109 k).length⟩]) (m := F.length) (s := fname 109 k) h2 hn hne g3).load hn rfl hdir fun i x hx => crash_files q keep i x (by rw [co.files]; exact hx)
    · right
      have hj3 : j = 3 := by
        have : (actsW F.length (fname 109 k)).length = 3 := rfl
        omega
      subst hj3
      have hdir : (q.crash keep).dir = (actsW F.length (fname 109 k)).foldl rdone d := hdir
      rw [actsW_fold _ _ hk] at hdir
      exact (counts_new (c := b) hc.sd hk).load hk rfl hdir fun i x hx => crash_files q keep i x (by rw [co.files]; exact hx)
theorem rcuts_le {c : Nat} : ∀ (l : List Nat) {F : List File} (keep : List UInt8), (∀ x ∈ F, x.data.length ≤ c) → ∀ x ∈ rcuts F keep l, x.data.length ≤ c
  | [], _, _, h => h
  | k :: l, F, keep, h => rcuts_le l keep.tail fun x hx => by
    unfold rcut at hx
    rcases List.mem_or_eq_of_mem_set hx with hx | rfl
    · exact h x hx
    · show ((F.getD k ⟨[], 0⟩).data.take _).length ≤ c
      rw [List.length_take]
      have : (F.getD k ⟨[], 0⟩).data.length ≤ c := by
        rw [List.getD_eq_getElem?_getD]
        cases hk : F[k]? with
        | none => exact Nat.zero_le _
        | some x => exact h x (List.mem_of_getElem? hk)
      omega
theorem read_le {r : RD} {c : Nat} (h : ∀ x ∈ r.files, x.data.length ≤ c) (s : List UInt8) : (r.readB s).length ≤ c := by
  unfold RD.readB
  split
  · unfold RD.got
    rw [List.getD_eq_getElem?_getD]
    cases hk : r.files[r.num s]? with
    | none => exact Nat.zero_le _
    | some x => exact h x (List.mem_of_getElem? hk)
  · exact Nat.zero_le _
theorem came_files {q : RD} {F : List File} {d : RDir} {s b : List UInt8} {E : Int} (h : Came q F d s b E) (hF : ∀ x ∈ F, x.data.length ≤ 20000) (hb : b.length ≤ 20000) (hs : s.length ≤ 20000) : ∀ x ∈ q.files, x.data.length ≤ 20000 := by
  rcases h with ⟨_, u⟩ | ⟨_, G, _, _, hG, _, co⟩ | ⟨_, _, co⟩
  · rw [u.files]; exact fun x hx => (List.mem_append.1 hx).elim (hF x) (two_le (c := 20000) hb hs x)
  · rw [co.files]; exact fun x hx => (List.mem_append.1 hx).elim (hF x) (hG x)
  · rw [co.files]; exact fun x hx => (List.mem_append.1 hx).elim (hF x) (two_le (c := 20000) hb hs x)
end Go.Proofs.YtabcdodjkfknlaaGreatDoor
namespace Go.Proofs.YtabcdodjkfknlaaGreatDoor
open Go.RowKit
def crashR0 : RD := RD.new 16777216
theorem crash_up0 : Okd crashR0 := Okd.new _
theorem upC_new : UpC crashR0 [] [] [] [] := ⟨⟨rfl, rfl, rfl, rfl, rfl⟩, rfl⟩
/-- a version that Start can take on a disk that is new -/
structure Fit (v : Ver) : Prop where
  ok : v.ok = true
  name : fname 109 v.next.toNat ≠ []
  bulk : v.bulk ≤ 14100
  fits : v.up.whole.fits
theorem Fit.next {v : Ver} (h : Fit v) : 1 ≤ v.next ∧ v.next ≤ 999999999 := by
  obtain ⟨_, h1, h3, _⟩ := fname_form rfl h.name
  have := (Ver.ok_iff.1 h.ok).1
  unfold Ver.headOk at this
  simp only [Bool.and_eq_true, decide_eq_true_eq] at this
  omega
theorem Fit.loadM {v : Ver} (h : Fit v) : loadM v.next.toNat (sealL v.up.whole.bytes) = (v.up, v.next, 0) := by
  have hn := h.next
  have hb := h.bulk
  unfold Ver.bulk at hb
  unfold Go.Proofs.YtabcdodjkfknlaaGreatDoor.loadM
  rw [loadB_whole (up_ok h.ok hn.2) h.fits (by omega)]
  show (v.up, ((v.next.toNat : Nat) : Int), (0 : Int)) = _
  rw [show ((v.next.toNat : Nat) : Int) = v.next by omega]
theorem Fit.start {v : Ver} (h : Fit v) (r : RD) : startR r v = ((startS r (fname 109 v.next.toNat) (sealL v.up.whole.bytes)).1, if (startS r (fname 109 v.next.toNat) (sealL v.up.whole.bytes)).2 ≠ 0 then (Ver.zero, 0, (startS r (fname 109 v.next.toNat) (sealL v.up.whole.bytes)).2) else (v.up, v.next, 0)) := by
  have hr := Ver.whole_right (up_ok h.ok h.next.2)
  unfold startR
  rw [if_neg (by rintro (h1 | h1); rw [h.ok] at h1; cases h1; exact h.name h1), if_neg (by rw [hr]; simp)]
  split <;> rfl
theorem Fit.new {v : Ver} (h : Fit v) : Started crashR0 v := startR_ok crash_up0 h.ok h.name rfl (by show (0 : Nat) + _ + 11 ≤ 16777216; have := h.bulk; omega)
theorem Fit.first {v : Ver} (h : Fit v) : UpC (startR crashR0 v).1 [⟨sealL v.up.whole.bytes, (sealL v.up.whole.bytes).length⟩, ⟨fname 109 v.next.toNat, (fname 109 v.next.toNat).length⟩] (dirW [] 0 (fname 109 v.next.toNat)) (dirW [] 0 (fname 109 v.next.toNat)) [] := by
  obtain ⟨g1, g2, g3, g4⟩ := fname_dName rfl h.name
  have hb := h.bulk
  unfold Ver.bulk at hb
  have hc := start_came (s := fname 109 v.next.toNat) (b := sealL v.up.whole.bytes) upC_new (by exact List.Pairwise.nil) g1 g4 rfl rfl (fun x hx => by cases hx) (Nat.zero_le _) (by rw [sealL_len]; omega) (by omega)
  have he := h.new.err
  rw [h.start] at he ⊢
  have hE : (startS crashR0 (fname 109 v.next.toNat) (sealL v.up.whole.bytes)).2 = 0 := by
    by_cases h0 : (startS crashR0 (fname 109 v.next.toNat) (sealL v.up.whole.bytes)).2 = 0
    · exact h0
    · rw [if_pos h0] at he
      have := congrArg (fun x : Ver × Int × Int => x.2.2) he
      exact absurd this h0
  rcases hc with ⟨_, u⟩ | ⟨e, _⟩ | ⟨e, _⟩
  · exact u
  · rw [hE] at e; cases e
  · rw [hE] at e; cases e
theorem UpC.fused {q : RD} {F : List File} {d sf : RDir} {a : List RAct} (h : UpC q F d sf a) (n : Int) : UpC (q.fused n) F d sf a := by
  obtain ⟨⟨h1, h2, h3, h4, h5⟩, h6⟩ := h
  exact ⟨⟨h1, h2, h3, h4, h5⟩, h6⟩
theorem dirW_sorted {d : RDir} (hd : RSorted d) (n : Nat) (s : List UInt8) : RSorted (dirW d n s) := rset_sorted (rset_sorted (rset_sorted (rset_sorted hd s _) freshL _) freshL _) currentL _
theorem dirW_find {d : RDir} (hd : RSorted d) (n : Nat) (s : List UInt8) {t : List UInt8} (ht : t ≠ currentL) : rfind (dirW d n s) t = if t = freshL then none else if t = s then some n else rfind d t := by
  have s1 := rset_sorted hd s (some n)
  have s2 := rset_sorted s1 freshL (some (n + 1))
  have s3 := rset_sorted s2 freshL none
  show rfind (rset _ currentL _) t = _
  rw [rfind_set s3, if_neg ht, rfind_set s2]
  by_cases h : t = freshL
  · rw [if_pos h, if_pos h]
  · rw [if_neg h, if_neg h, rfind_set s1, if_neg h, rfind_set hd]
theorem fname_inj {a b : Nat} (h : fname 109 a ≠ []) (e : fname 109 a = fname 109 b) : a = b := by
  have h2 : fname 109 b ≠ [] := by rw [← e]; exact h
  have := fnum_of rfl h
  have h3 := fnum_of rfl h2
  rw [e] at this
  rw [this] at h3
  exact (Prod.mk.inj (Option.some.inj h3)).2
/-- what a crash amid the second Start leaves -/
theorem crash_sum {v u : Ver} (hv : Fit v) (hu : Fit u) (hne : v.next < u.next) (n : Int) (keep : List UInt8) :
    ((((startR ((startR crashR0 v).1.fused n) u).2 = (u.up, u.next, 0) ∧ loadR ((startR ((startR crashR0 v).1.fused n) u).1.crash keep) = (u.up, u.next, 0)) ∨
    ((startR ((startR crashR0 v).1.fused n) u).2 = (Ver.zero, 0, 6) ∧ (loadR ((startR ((startR crashR0 v).1.fused n) u).1.crash keep) = (v.up, v.next, 0) ∨ loadR ((startR ((startR crashR0 v).1.fused n) u).1.crash keep) = (u.up, u.next, 0))))) ∧
    ∀ s, (((startR ((startR crashR0 v).1.fused n) u).1.crash keep).readB s).length ≤ 200000 := by
  obtain ⟨g1, g2, g3, g4⟩ := fname_dName rfl hu.name
  obtain ⟨k1, k2, k3, k4⟩ := fname_dName rfl hv.name
  have hU := hv.first.fused n
  have hbv := hv.bulk
  have hbu := hu.bulk
  unfold Ver.bulk at hbv hbu
  have hnn : fname 109 u.next.toNat ≠ fname 109 v.next.toNat := fun e => by
    have := fname_inj hu.name e
    have := hv.next
    have := hu.next
    omega
  have hF : ∀ x ∈ [(⟨sealL v.up.whole.bytes, (sealL v.up.whole.bytes).length⟩ : File), ⟨fname 109 v.next.toNat, (fname 109 v.next.toNat).length⟩], x.data.length ≤ 20000 := two_le (by show (sealL _).length ≤ _; rw [sealL_len]; omega) (by show (fname 109 v.next.toNat).length ≤ _; omega)
  have hsb : (sealL u.up.whole.bytes).length ≤ 20000 := by rw [sealL_len]; omega
  have hsn : (fname 109 u.next.toNat).length ≤ 20000 := by omega
  have hsd : RSorted (dirW [] 0 (fname 109 v.next.toNat)) := dirW_sorted List.Pairwise.nil _ _
  have hlen : (dirW [] 0 (fname 109 v.next.toNat)).length ≤ 10 := by
    have l1 := rset_len (d := []) List.Pairwise.nil (fname 109 v.next.toNat) (some 0)
    have l2 := rset_len (rset_sorted (d := []) List.Pairwise.nil (fname 109 v.next.toNat) (some 0)) freshL (some 1)
    have l3 := rset_len (rset_sorted (rset_sorted (d := []) List.Pairwise.nil (fname 109 v.next.toNat) (some 0)) freshL (some 1)) freshL none
    have l4 := rset_len (rset_sorted (rset_sorted (rset_sorted (d := []) List.Pairwise.nil (fname 109 v.next.toNat) (some 0)) freshL (some 1)) freshL none) currentL (some 1)
    have : ([] : RDir).length = 0 := rfl
    show (rset (rset (rset (rset [] (fname 109 v.next.toNat) (some 0)) freshL (some 1)) freshL none) currentL (some 1)).length ≤ 10
    omega
  have hc := start_came (s := fname 109 u.next.toNat) (b := sealL u.up.whole.bytes) hU hsd g1 g4 (by rw [dirW_find List.Pairwise.nil _ _ g3, if_neg g4, if_neg hnn]; rfl) (by rw [dirW_find List.Pairwise.nil _ _ cur_fresh, if_pos rfl]) hF hlen hsb hsn
  have hcnt : Counts _ (dirW [] 0 (fname 109 v.next.toNat)) v.next.toNat (sealL v.up.whole.bytes) := counts_new (F := []) (d := []) (c := sealL v.up.whole.bytes) List.Pairwise.nil hv.name
  have hfl := came_files hc hF hsb hsn
  rw [hu.start]
  refine ⟨?_, read_le fun x hx => Nat.le_trans (rcuts_le _ _ hfl x hx) (by decide)⟩
  rcases came_crash hc hcnt hv.name hu.name hnn keep with ⟨e, h⟩ | ⟨e, h⟩
  · left
    rw [e]
    exact ⟨rfl, by rw [h, hu.loadM]⟩
  · right
    rw [e]
    refine ⟨rfl, ?_⟩
    rcases h with h | h
    · left; rw [h, hv.loadM]
    · right; rw [h, hu.loadM]
end Go.Proofs.YtabcdodjkfknlaaGreatDoor
