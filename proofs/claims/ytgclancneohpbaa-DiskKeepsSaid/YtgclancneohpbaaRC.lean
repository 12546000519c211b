/- The document's disk beside the program's: Crash. -/
import Derived.Test.YtgclancneohpbaaRT
namespace Go.Proofs.Ytgclancneohpbaa
theorem DirSim.names {g : List UInt8 → Option Nat} {d : RDir} {bl : List Nat} (h : DirSim g d bl) {ns : List (List UInt8)} (hn : Names g ns) : ns = d.map Prod.fst :=
  hn.unique ⟨List.pairwise_map.2 h.sorted, fun x => by
    rw [h.at_]
    constructor
    · intro hx
      obtain ⟨n, hn, rfl⟩ := List.mem_map.1 hx
      rw [rmem_find h.sorted hn]; rfl
    · intro hx
      cases hf : rfind d x with
      | none => rw [hf] at hx; cases hx
      | some i => exact List.mem_map.2 ⟨_, rfind_mem hf, rfl⟩⟩
theorem rcut_length (F : List File) (keep : List UInt8) (i : Nat) : (rcut F keep i).length = F.length := by unfold rcut; simp
theorem rcuts_length (F : List File) (keep : List UInt8) (l : List Nat) : (rcuts F keep l).length = F.length := by
  induction l generalizing F keep with
  | nil => rfl
  | cons i l ih => exact (ih (rcut F keep i) keep.tail).trans (rcut_length F keep i)
theorem rcuts_out {F : List File} {keep : List UInt8} {l : List Nat} {i : Nat} (h : i ∉ l) : (rcuts F keep l).getD i ⟨[], 0⟩ = F.getD i ⟨[], 0⟩ := by
  induction l generalizing F keep with
  | nil => rfl
  | cons j l ih =>
    have hi : i ≠ j := fun e => h (by rw [e]; exact List.mem_cons_self)
    refine (ih (F := rcut F keep j) (keep := keep.tail) fun hm => h (List.mem_cons_of_mem _ hm)).trans ?_
    unfold rcut
    rw [List.getD_eq_getElem?_getD, List.getElem?_set_ne (Ne.symm hi), List.getD_eq_getElem?_getD]
theorem rcutN_le {F : List File} {keep : List UInt8} {i : Nat} (h : (F.getD i ⟨[], 0⟩).safe ≤ (F.getD i ⟨[], 0⟩).data.length) : rcutN F keep i ≤ (F.getD i ⟨[], 0⟩).data.length := by
  unfold rcutN
  have := nextN_le keep ((F.getD i ⟨[], 0⟩).data.length - (F.getD i ⟨[], 0⟩).safe)
  omega
theorem rcut_at {F : List File} {keep : List UInt8} {i : Nat} (h : i < F.length) : (rcut F keep i).getD i ⟨[], 0⟩ = ⟨(F.getD i ⟨[], 0⟩).data.take (rcutN F keep i), rcutN F keep i⟩ := by
  unfold rcut
  rw [List.getD_eq_getElem?_getD, List.getElem?_set_self h]; rfl
theorem rcut_ne {F : List File} {keep : List UInt8} {i j : Nat} (h : j ≠ i) : (rcut F keep i).getD j ⟨[], 0⟩ = F.getD j ⟨[], 0⟩ := by
  unfold rcut
  rw [List.getD_eq_getElem?_getD, List.getElem?_set_ne (Ne.symm h), List.getD_eq_getElem?_getD]
/-- files alike -/
structure FSim (k : Dk) (F : List File) (bl : List Nat) : Prop where
  len : F.length = bl.length
  nodup : bl.Nodup
  file : ∀ i x, F[i]? = some x → k.file (bl.getD i 0) = some x
  safe : ∀ i, (F.getD i ⟨[], 0⟩).safe ≤ (F.getD i ⟨[], 0⟩).data.length
theorem FSim.got {k : Dk} {F : List File} {bl : List Nat} (h : FSim k F bl) {i : Nat} (hi : i < bl.length) : k.got (bl.getD i 0) = F.getD i ⟨[], 0⟩ := by
  have hl : i < F.length := by rw [h.len]; exact hi
  have e : F[i]? = some (F.getD i ⟨[], 0⟩) := by rw [List.getD_eq_getElem?_getD, List.getElem?_eq_getElem hl]; rfl
  unfold Dk.got
  rw [h.file i _ e]; rfl
theorem FSim.cut {k : Dk} {F : List File} {bl : List Nat} (h : FSim k F bl) {i : Nat} (hi : i < bl.length) {s : List UInt8} (hs : k.safe s = some (bl.getD i 0)) (keep : List UInt8) : FSim (k.cut keep s) (rcut F keep i) bl ∧ (k.cut keep s).used = k.used + (rcutN F keep i : Int) := by
  have h0 : (k.safe s).getD 0 = bl.getD i 0 := by rw [hs]; rfl
  have hlen : i < F.length := by rw [h.len]; exact hi
  have hF : (k.cut keep s).file = fun j => if j = bl.getD i 0 then some ⟨(F.getD i ⟨[], 0⟩).data.take (rcutN F keep i), rcutN F keep i⟩ else k.file j := by
    show (k.upd ((k.safe s).getD 0) _).file = _
    rw [h0, h.got hi]; rfl
  refine ⟨⟨(rcut_length F keep i).trans h.len, h.nodup, fun j x hx => ?_, fun j => ?_⟩, ?_⟩
  · rw [hF]
    show (if bl.getD j 0 = bl.getD i 0 then _ else k.file (bl.getD j 0)) = some x
    have hj : j < bl.length := by
      have := (List.getElem?_eq_some_iff.1 hx).1
      rw [rcut_length, h.len] at this; exact this
    by_cases e : j = i
    · subst e
      rw [if_pos rfl]
      unfold rcut at hx
      rw [List.getElem?_set_self hlen] at hx
      exact hx
    · rw [if_neg (fun e' => e (getD_inj h.nodup hj hi e'))]
      unfold rcut at hx
      rw [List.getElem?_set_ne (Ne.symm e)] at hx
      exact h.file j x hx
  · by_cases e : j = i
    · subst e
      rw [rcut_at hlen]
      have := rcutN_le (keep := keep) (h.safe j)
      show rcutN F keep j ≤ (List.take _ _).length
      rw [List.length_take]; omega
    · rw [rcut_ne e]; exact h.safe j
  · show k.used + _ = _
    rw [h0, h.got hi]; rfl
theorem FSim.cuts {bl : List Nat} : ∀ (d : RDir) {k : Dk} {F : List File} (keep : List UInt8), FSim k F bl → (∀ n ∈ d, n.2 < bl.length ∧ k.safe n.1 = some (bl.getD n.2 0)) → (rnums d).Nodup →
    FSim (k.cuts keep (d.map Prod.fst)) (rcuts F keep (rnums d)) bl ∧ (k.cuts keep (d.map Prod.fst)).used = k.used + (rsum (rcuts F keep (rnums d)) (rnums d) : Int)
  | [], k, F, keep, h, _, _ => ⟨h, by show k.used = k.used + ((0 : Nat) : Int); simp⟩
  | n :: d, k, F, keep, h, hd, hn => by
    obtain ⟨h1, h2⟩ := hd n List.mem_cons_self
    obtain ⟨c1, c2⟩ := h.cut h1 h2 keep
    obtain ⟨n1, n2⟩ := List.nodup_cons.1 hn
    replace n1 : n.2 ∉ rnums d := n1
    obtain ⟨i1, i2⟩ := FSim.cuts d keep.tail c1 (fun m hm => hd m (List.mem_cons_of_mem _ hm)) n2
    refine ⟨i1, i2.trans ?_⟩
    rw [c2]
    show _ = k.used + ((rsum (rcuts (rcut F keep n.2) keep.tail (rnums d)) (n.2 :: rnums d) : Nat) : Int)
    rw [rsum_cons]
    have e : rsize (rcuts (rcut F keep n.2) keep.tail (rnums d)) n.2 = rcutN F keep n.2 := by
      unfold rsize
      rw [rcuts_out n1, rcut_at (by rw [h.len]; exact h1)]
      have := rcutN_le (keep := keep) (h.safe n.2)
      show (List.take _ _).length = _
      rw [List.length_take]; omega
    rw [e]; omega
theorem Sim.crash {k : Dk} {r : RD} {bl : List Nat} (h : Sim k r bl) (hsf : ∀ f x, k.file f = some x → x.safe ≤ x.data.length) {keep : List UInt8} {ns : List (List UInt8)} (hn : Names (k.kept keep).safe ns) : Sim (k.crashed keep ns) (r.crash keep) bl := by
  have hlen : k.acts.length = r.acts.length := by rw [h.acts, List.length_map]
  have hK : (k.kept keep).safe = ((r.acts.take (nextN keep r.acts.length)).map (actOf bl)).foldl (fun d a => a.does d) k.safe := by
    show (k.acts.take (nextN keep k.acts.length)).foldl (fun d a => a.does d) k.safe = _
    rw [hlen, h.acts, List.map_take]
  have hD : DirSim (k.kept keep).safe (r.kept keep) bl := by
    rw [hK]
    exact foldl_sim _ (fun a ha => h.actLt a (List.mem_of_mem_take ha)) h.safe
  obtain rfl := hD.names hn
  have hF : FSim (k.kept keep) r.files bl := ⟨h.len, h.nodup, h.file, fun i => by
    rw [List.getD_eq_getElem?_getD]
    cases hx : r.files[i]? with
    | none => exact Nat.le_refl _
    | some x => exact hsf _ x (h.file i x hx)⟩
  obtain ⟨c1, c2⟩ := FSim.cuts (r.kept keep) keep.tail hF (fun n hn => ⟨hD.lt _ (List.mem_map.2 ⟨n, hn, rfl⟩), by rw [hD.at_, rmem_find hD.sorted hn]; rfl⟩) (h.inj _)
  have hs := Dk.cuts_same (k.kept keep) keep.tail ((r.kept keep).map Prod.fst)
  refine ⟨hs.2.2.2.1.trans h.cap, rfl, rfl, c1.len, h.nodup, c1.file, ?_, ?_, rfl, fun a ha => (by cases ha), rfl, fun j => ?_, ?_⟩
  · show DirSim ((k.kept keep).cuts keep.tail _).safe _ bl
    rw [hs.2.1]; exact hD
  · show DirSim ((k.kept keep).cuts keep.tail _).safe _ bl
    rw [hs.2.1]; exact hD
  · show (rnums ((([] : List RAct).take j).foldl rdone (r.kept keep))).Nodup
    rw [List.take_nil]; exact h.inj _
  · show ((k.kept keep).cuts keep.tail _).used = _
    rw [c2]
    show (0 : Int) + _ = _
    rw [Int.zero_add]; rfl
theorem Sim.new (cap : Int) : Sim (Dk.new cap) (RD.new cap) [] :=
  ⟨rfl, rfl, rfl, rfl, List.nodup_nil, fun i x h => (by simp [RD.new] at h), ⟨List.Pairwise.nil, fun i h => (by cases h), fun n h => (by cases h), fun _ => rfl⟩, ⟨List.Pairwise.nil, fun i h => (by cases h), fun n h => (by cases h), fun _ => rfl⟩, rfl, fun a h => (by cases h), rfl, fun j => by
    show (rnums ((([] : List RAct).take j).foldl rdone [])).Nodup
    rw [List.take_nil]; exact List.nodup_nil, rfl⟩
end Go.Proofs.Ytgclancneohpbaa
