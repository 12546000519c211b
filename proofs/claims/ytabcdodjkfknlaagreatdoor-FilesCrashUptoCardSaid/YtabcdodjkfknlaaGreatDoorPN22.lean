/- Files' names, read: what strings.Cut and strconv.Atoi make of them. No program in sight. Walks: what a name tells. Which version a disk's files tell. Load: a manifest's bytes and the version so far, in memory. -/
import Derived.Test.YtabcdodjkfknlaaGreatDoorPN21
import Derived.Lib.AtoiTie
import Derived.Lib.IndexMore
import Derived.Lib.AtoiErrMem
import Derived.Test.YtabcdodjkfknlaaGreatDoorPN10
namespace Go.Proofs.YtabcdodjkfknlaaGreatDoor
open Go.RowKit
theorem digitVal_of (k : Nat) (h : k < 10) : Lib.digitVal (UInt8.ofNat (48 + k)) = some k := by
  have : ∀ k : Fin 10, Lib.digitVal (UInt8.ofNat (48 + k.val)) = some k.val := by decide
  exact this ⟨k, h⟩
theorem decFrom_snoc : ∀ (l : List UInt8) (a n : Nat) (d : UInt8) (x : Nat), Lib.decFrom a l = some n → Lib.digitVal d = some x → Lib.decFrom a (l ++ [d]) = some (n * 10 + x)
  | [], a, n, d, x, h, hd => by
    obtain rfl : a = n := by simpa [Lib.decFrom] using h
    simp [Lib.decFrom, hd]
  | c :: r, a, n, d, x, h, hd => by
    rw [List.cons_append]
    unfold Lib.decFrom at h ⊢
    cases hc : Lib.digitVal c with
    | none => rw [hc] at h; cases h
    | some y =>
      rw [hc] at h
      exact decFrom_snoc r _ n d x h hd
theorem decFrom_dec (u : Nat) : Lib.decFrom 0 (Lib.decDigits u) = some u := by
  induction u using Nat.strongRecOn with
  | ind u ih =>
    unfold Lib.decDigits
    split
    · rename_i h
      have := decFrom_snoc [] 0 0 _ u rfl (digitVal_of u h)
      simpa using this
    · rename_i h
      have := decFrom_snoc _ 0 (u / 10) _ (u % 10) (ih (u / 10) (by omega)) (digitVal_of (u % 10) (Nat.mod_lt _ (by omega)))
      rw [this]
      congr 1; omega
theorem dec_digit (u : Nat) : ∀ x ∈ Lib.decDigits u, 48 ≤ x.toNat ∧ x.toNat ≤ 57 := by
  have hd : ∀ k : Fin 10, 48 ≤ (UInt8.ofNat (48 + k.val)).toNat ∧ (UInt8.ofNat (48 + k.val)).toNat ≤ 57 := by decide
  induction u using Nat.strongRecOn with
  | ind u ih =>
    intro x hx
    unfold Lib.decDigits at hx
    split at hx
    · rename_i h
      obtain rfl := List.mem_singleton.1 hx
      exact hd ⟨u, h⟩
    · rcases List.mem_append.1 hx with h | h
      · exact ih (u / 10) (by omega) x h
      · obtain rfl := List.mem_singleton.1 h
        exact hd ⟨u % 10, Nat.mod_lt _ (by omega)⟩
theorem dec_ne (u : Nat) : Lib.decDigits u ≠ [] := by
  unfold Lib.decDigits
  split <;> simp
theorem dec_len9 : ∀ (b m : Nat), m < 10 ^ (b + 1) → (Lib.decDigits m).length ≤ b + 1 := by
  intro b
  induction b with
  | zero => intro m hm; rw [Lib.decDigits, dif_pos (by omega)]; simp
  | succ b ih =>
    intro m hm
    rw [Lib.decDigits]
    by_cases h : m < 10
    · rw [dif_pos h]; simp
    · rw [dif_neg h, List.length_append]
      have := ih (m / 10) (by omega)
      simp; omega
theorem atoi_dec (u : Nat) : Lib.atoi (Lib.decDigits u) = some (u : Int) := by
  have h1 := decFrom_dec u
  have h2 := dec_digit u
  cases hl : Lib.decDigits u with
  | nil => exact absurd hl (dec_ne u)
  | cons b r =>
    rw [hl] at h1 h2
    have hb := h2 b (by simp)
    have e1 : (b == 45) = false := by
      simp only [beq_eq_false_iff_ne, ne_eq]
      rintro rfl
      exact absurd hb.1 (by decide)
    have e2 : (b == 43) = false := by
      simp only [beq_eq_false_iff_ne, ne_eq]
      rintro rfl
      exact absurd hb.1 (by decide)
    unfold Lib.atoi
    simp only [e1, e2, Lib.decNat, List.isEmpty_cons, h1]
    rfl
theorem atoiAll_dec (u : Nat) (h : u ≤ 999999999) : Lib.atoiAll (Lib.decDigits u) = .ok (u : Int) := by
  rw [Lib.atoiAll_short _ (by have := dec_len9 8 u (by omega); omega), atoi_dec]
  rfl
/-- what the program makes of the parts of a name -/
def numQ (l a d : List UInt8) (o : Bool) : Option (UInt8 × Nat) :=
  match a, Lib.atoiAll d with
  | [k], .ok v => if o = true ∧ fname k v.toNat = l then some (k, v.toNat) else none
  | _, _ => none
theorem numQ_no (l a d : List UInt8) : numQ l a d false = none := by
  unfold numQ
  split
  · rw [if_neg (by simp)]
  · rfl
theorem numQ_len (l d : List UInt8) {a : List UInt8} (o : Bool) (h : a.length ≠ 1) : numQ l a d o = none := by
  unfold numQ
  split
  · exact absurd rfl h
  · rfl
theorem numQ_err (l a : List UInt8) {d : List UInt8} (o : Bool) (h : ∀ v, Lib.atoiAll d ≠ .ok v) : numQ l a d o = none := by
  unfold numQ
  split
  · rename_i v he; exact absurd he (h v)
  · rfl
theorem numQ_ok (l : List UInt8) (k : UInt8) {d : List UInt8} {v : Int} (h : Lib.atoiAll d = .ok v) : numQ l [k] d true = if fname k v.toNat = l then some (k, v.toNat) else none := by
  unfold numQ
  rw [h]
  simp
/-- what the program makes of a name -/
def numP (l : List UInt8) : Option (UInt8 × Nat) := numQ l (Lib.cut l [45]).1 (Lib.cut l [45]).2.1 (Lib.cut l [45]).2.2
theorem cut_name (k : UInt8) (ds : List UInt8) (h : k ≠ 45) : Lib.cut (k :: 45 :: ds) [45] = ([k], ds, true) := by
  have hi : Lib.index (k :: 45 :: ds) [45] = 1 := by
    have e1 : ([45] : List UInt8).isPrefixOf (k :: 45 :: ds) = false := by
      simp [List.isPrefixOf]
      exact fun e => h e.symm
    have e2 : Lib.index (45 :: ds) [45] = 0 := by
      unfold Lib.index
      simp [List.isPrefixOf]
    unfold Lib.index
    rw [if_neg (by rw [e1]; simp), e2]
    rfl
  unfold Lib.cut
  rw [hi]
  rfl
theorem fkind_ne {k : UInt8} (h : fkind k = true) : k ≠ 45 := by
  rintro rfl
  exact absurd h (by decide)
theorem fname_form {k : UInt8} {n : Nat} {l : List UInt8} (h : fname k n = l) (hl : l ≠ []) : fkind k = true ∧ 1 ≤ n ∧ n ≤ 999999999 ∧ l = k :: 45 :: Lib.decDigits n := by
  by_cases e : fkind k = true ∧ 1 ≤ n ∧ n ≤ 999999999
  · unfold fname at h
    rw [if_pos e] at h
    exact ⟨e.1, e.2.1, e.2.2, h.symm⟩
  · unfold fname at h; rw [if_neg e] at h; exact absurd h.symm hl
theorem cut_nil : (Lib.cut [] [45]).2.2 = false := by decide
theorem numP_eq (l : List UInt8) : numP l = fnum l := by
  cases hf : fnum l with
  | some p =>
    obtain ⟨k, n⟩ := p
    obtain ⟨h1, h2⟩ := fnum_back hf
    obtain ⟨a, b, c, rfl⟩ := fname_form h1 h2
    unfold numP numQ
    rw [cut_name k _ (fkind_ne a), atoiAll_dec n c]
    simp only [Int.toNat_natCast]
    rw [if_pos ⟨trivial, h1⟩]
  | none =>
    unfold numP numQ
    split
    · rename_i k v _ _
      by_cases e : (Lib.cut l [45]).2.2 = true ∧ fname k v.toNat = l
      · have hl : l ≠ [] := by
          rintro rfl
          rw [cut_nil] at e
          cases e.1
        rw [fnum_of e.2 hl] at hf
        cases hf
      · rw [if_neg e]
    · rfl
end Go.Proofs.YtabcdodjkfknlaaGreatDoor
namespace Go.Proofs.YtabcdodjkfknlaaGreatDoor
open Go.RowKit
theorem atoi_calls (s : ByteArray) (w : World) (hs : s.size ≤ 10000000) (hw : StdF w) :
    Calls Tryz.prog 35 #[.string s] w fun e w' => Below w.heap.size w w' ∧ ((∃ v, Lib.atoiAll s.data.toList = .ok v ∧ e = .returned (.tuple #[.int .i64 v, .nilIface])) ∨ ((∀ v, Lib.atoiAll s.data.toList ≠ .ok v) ∧ ∃ n N, e = .returned (.tuple #[.int .i64 n, .iface 171 (.pointer (some ⟨N, 0, none⟩))]))) := by
  cases h : Lib.atoiAll s.data.toList with
  | ok v =>
    refine (Tryz.strconv_Atoi_ok s (by omega) v h w).mono ?_
    rintro e w' ⟨rfl, rfl | ⟨t, rfl⟩⟩
    · exact ⟨Below.refl _ _, .inl ⟨v, rfl, rfl⟩⟩
    · exact ⟨Lib.bytesWorld_below _ _ _, .inl ⟨v, rfl, rfl⟩⟩
  | range =>
    obtain ⟨ev, h1, h2⟩ := hw.er
    refine (Tryz.strconv_Atoi_range s (by omega) h ev w h1 h2).mono ?_
    rintro e w' ⟨N, rfl, _, _, hb⟩
    exact ⟨hb, .inr ⟨fun _ h => (nomatch h), _, N, rfl⟩⟩
  | _ =>
    obtain ⟨ev, h1, h2⟩ := hw.sy
    refine (Tryz.strconv_Atoi_bad s (by omega) (fun v e => by rw [h] at e; cases e) (fun e => by rw [h] at e; cases e) ev w h1 h2).mono ?_
    rintro e w' ⟨N, rfl, _, _, hb⟩
    exact ⟨hb, .inr ⟨fun _ e => (by cases e), _, N, rfl⟩⟩
theorem cut_calls (s : ByteArray) (w : World) (hs : s.size ≤ 10000000) (hw : StdF w) :
    Calls Tryz.prog 34 #[.string s, .string ⟨#[45]⟩] w fun e w' => e = .returned (.tuple #[.string ⟨(Lib.cut s.data.toList [45]).1.toArray⟩, .string ⟨(Lib.cut s.data.toList [45]).2.1.toArray⟩, .bool (Lib.cut s.data.toList [45]).2.2]) ∧ Below w.heap.size w w' := by
  obtain ⟨m, hm⟩ := hw.mx
  refine (Tryz.strings_Cut s ⟨#[45]⟩ m w (by omega) hm).mono ?_
  rintro e w' ⟨rfl, n, rfl⟩
  exact ⟨rfl, bdrewN (Below.refl _ _) n⟩
def numV (r : Option (UInt8 × Nat)) : Array Value := match r with | some (k, n) => #[.int .u8 k.toNat, .int .i64 n, .bool true] | none => #[.int .u8 0, .int .i64 0, .bool false]
theorem cut_len (l : List UInt8) : (Lib.cut l [45]).2.1.length ≤ l.length := by
  unfold Lib.cut
  split
  · simp only [List.length_drop]; omega
  · simp
theorem numP_parts (l a d : List UInt8) (o : Bool) (h1 : (Lib.cut l [45]).1 = a) (h2 : (Lib.cut l [45]).2.1 = d) (h3 : (Lib.cut l [45]).2.2 = o) : fnum l = numQ l a d o := by
  rw [← numP_eq]; unfold numP; rw [h1, h2, h3]
def NumPost_ (w : World) (l : List UInt8) (e : Ending) (w' : World) : Prop := e = .returned (.tuple (numV (fnum l))) ∧ Below w.heap.size w w'
set_option maxHeartbeats 1000000 in
set_option maxRecDepth 100000 in
theorem number_name_calls (s : ByteArray) (w : World) (hs : s.size ≤ 10000000) (hw : StdF w) :
    Calls Tryz.prog 9 #[.string s] w (NumPost_ w s.data.toList) := by
  have hC := cut_calls s w hs hw
  obtain ⟨a, ha⟩ : ∃ a, (Lib.cut s.data.toList [45]).1 = a := ⟨_, rfl⟩
  obtain ⟨d, hd⟩ : ∃ d, (Lib.cut s.data.toList [45]).2.1 = d := ⟨_, rfl⟩
  obtain ⟨o, ho⟩ : ∃ o, (Lib.cut s.data.toList [45]).2.2 = o := ⟨_, rfl⟩
  have hP := numP_parts _ a d o ha hd ho
  have hdl : d.length ≤ s.size := by rw [← hd, Lib.size_eq]; exact cut_len _
  rw [ha, hd, ho] at hC
  have hA := fun W hb => atoi_calls ⟨d.toArray⟩ W (by rw [Lib.size_eq]; exact Nat.le_trans hdl hs) (hw.next hb)
  have hdt : (⟨d.toArray⟩ : ByteArray).data.toList = d := by simp
  rw [hdt] at hA
  unfold NumPost_
  obtain ⟨R, hR⟩ : ∃ R, fnum s.data.toList = R := ⟨_, rfl⟩
  rw [hR] at hP ⊢
  have hC' := Lib.hid hC
  have hA' := Lib.hid hA
  have hw' := Lib.hid hw
  clear ha hd ho hdl hdt hC hA hw
  cases o with
  | false =>
    obtain rfl : R = none := hP.trans (numQ_no _ _ _)
    show Calls _ _ _ _ fun e w' => e = .returned (.tuple #[.int .u8 0, .int .i64 0, .bool false]) ∧ Below w.heap.size w w'
    clear hR hP
    go_enter Tryz.func9, Tryz.ntmps9
    go_wp2_with (first
      | (go_at_call 34; ((with_reducible refine hC'.out.mono ?_); rintro e w1 ⟨rfl, hb1⟩; have hb1' := Lib.hid hb1; clear hb1))
      | (go_at_call 35; ((with_reducible refine (hA'.out _ hb1'.out).mono ?_); rintro e w2 ⟨hb2, ⟨v, _, rfl⟩ | ⟨_, n, N, rfl⟩⟩ <;> have hb2' := Lib.hid (hb1'.out.trans (hb2.mono hb1'.out.size)) <;> clear hb2)))
    all_goals
      go_ret3
      exact ⟨rfl, hb2'.out⟩
  | true =>
    by_cases hl1 : a.length = 1
    · obtain ⟨k, rfl⟩ : ∃ k, a = [k] := List.length_eq_one_iff.1 hl1
      clear hl1
      go_enter Tryz.func9, Tryz.ntmps9
      go_wp2_with (first
        | (go_at_call 34; ((with_reducible refine hC'.out.mono ?_); rintro e w1 ⟨rfl, hb1⟩; have hb1' := Lib.hid hb1; clear hb1)))
      (with_reducible refine (hA'.out _ hb1'.out).mono ?_)
      rintro e w2 ⟨hb2, ⟨v, hv, rfl⟩ | ⟨hv, n, N, rfl⟩⟩
      · have hbd := Lib.atoiAll_bounds hv
        rw [numQ_ok _ _ hv] at hP
        have hb3 := hb1'.out.trans (hb2.mono hb1'.out.size)
        have hN := Lib.hid (name_calls k v w2 hbd.1 (by omega) (hw'.out.next hb3))
        have hb3' := Lib.hid hb3
        obtain ⟨F, hF⟩ : ∃ F, (⟨(fname k v.toNat).toArray⟩ : ByteArray) = F := ⟨_, rfl⟩
        rw [hF] at hN
        by_cases he : fname k v.toNat = s.data.toList
        · rw [if_pos he] at hP
          subst hP
          have hFs : F = s := by rw [← hF, he]
          subst hFs
          obtain ⟨n, rfl⟩ : ∃ n : Nat, v = (n : Int) := by
            refine ⟨v.toNat, ?_⟩
            have h1 : F.data.toList ≠ [] := by
              intro h0
              have : fname k v.toNat = [] := he.trans h0
              have hR2 := fnum_back hR
              exact hR2.2 h0
            have := (fname_form he h1).2.1
            omega
          clear hF he hv hA' hC' hb3 hb2 hR
          go_wp2_with (go_at_call 11; (refine hN.out.mono ?_; rintro e w4 ⟨rfl, hb4⟩; have hb4' := Lib.hid (hb3'.out.trans (hb4.mono hb3'.out.size)); clear hb4))
          go_ret3
          exact ⟨rfl, hb4'.out⟩
        · rw [if_neg he] at hP
          subst hP
          have hne : (F.toList == s.toList) = false := by
            rw [beq_eq_false_iff_ne]
            intro h
            rw [Lib.toList_data, Lib.toList_data, ← hF] at h
            exact he h
          clear hF he hv hA' hC' hb3 hb2 hR
          go_wp2_with (go_at_call 11; (refine hN.out.mono ?_; rintro e w4 ⟨rfl, hb4⟩; have hb4' := Lib.hid (hb3'.out.trans (hb4.mono hb3'.out.size)); clear hb4))
          go_ret3
          exact ⟨rfl, hb4'.out⟩
      · obtain rfl : R = none := hP.trans (numQ_err _ _ _ hv)
        have hb2' := Lib.hid (hb1'.out.trans (hb2.mono hb1'.out.size))
        clear hb2 hv hR hP hA' hC'
        go_wp2_with fail
        go_ret3
        exact ⟨rfl, hb2'.out⟩
    · obtain rfl : R = none := hP.trans (numQ_len _ _ _ hl1)
      have hA1 : (⟨a.toArray⟩ : ByteArray).size = a.length := by rw [Lib.size_eq]
      have t1 : ((a.length : Int) == 1) = false := by simp; omega
      show Calls _ _ _ _ fun e w' => e = .returned (.tuple #[.int .u8 0, .int .i64 0, .bool false]) ∧ Below w.heap.size w w'
      clear hR hP
      go_enter Tryz.func9, Tryz.ntmps9
      go_wp2_with (first
        | (go_at_call 34; ((with_reducible refine hC'.out.mono ?_); rintro e w1 ⟨rfl, hb1⟩; have hb1' := Lib.hid hb1; clear hb1))
        | (go_at_call 35; ((with_reducible refine (hA'.out _ hb1'.out).mono ?_); rintro e w2 ⟨hb2, ⟨v, _, rfl⟩ | ⟨_, n, N, rfl⟩⟩ <;> have hb2' := Lib.hid (hb1'.out.trans (hb2.mono hb1'.out.size)) <;> clear hb2)))
      all_goals
        go_ret3
        exact ⟨rfl, hb2'.out⟩
end Go.Proofs.YtabcdodjkfknlaaGreatDoor
namespace Go.Proofs.YtabcdodjkfknlaaGreatDoor
open Go.RowKit
/-- what a manifest's bytes make of a version; whether any frame was read -/
def loadB (v : Ver) (s : Bool) (b : List UInt8) : Option (Ver × Bool) :=
  if h : (nextL b).1 = 0 then
    if (decodeE (nextL b).2).2 ≠ 0 then none else
    if (applyV v (decodeE (nextL b).2).1).2 ≠ 0 then none else
      loadB (applyV v (decodeE (nextL b).2).1).1 true (b.drop (8 + (nextL b).2.length))
  else some (v, s)
termination_by b.length
decreasing_by
  have := nextL_len h
  rw [List.length_drop]
  omega
theorem loadB_end {v : Ver} {s : Bool} {b : List UInt8} (h : (nextL b).1 ≠ 0) : loadB v s b = some (v, s) := by rw [loadB, dif_neg h]
theorem loadB_dec {v : Ver} {s : Bool} {b : List UInt8} (h : (nextL b).1 = 0) (hd : (decodeE (nextL b).2).2 ≠ 0) : loadB v s b = none := by rw [loadB, dif_pos h, if_pos hd]
theorem loadB_app {v : Ver} {s : Bool} {b : List UInt8} (h : (nextL b).1 = 0) (hd : (decodeE (nextL b).2).2 = 0) (ha : (applyV v (decodeE (nextL b).2).1).2 ≠ 0) : loadB v s b = none := by
  rw [loadB, dif_pos h, if_neg (by simpa using hd), if_pos ha]
theorem loadB_next {v : Ver} {s : Bool} {b : List UInt8} (h : (nextL b).1 = 0) (hd : (decodeE (nextL b).2).2 = 0) (ha : (applyV v (decodeE (nextL b).2).1).2 = 0) :
    loadB v s b = loadB (applyV v (decodeE (nextL b).2).1).1 true (b.drop (8 + (nextL b).2.length)) := by
  rw [loadB, dif_pos h, if_neg (by simpa using hd), if_neg (by simpa using ha)]
abbrev currentL : List UInt8 := [99, 117, 114, 114, 101, 110, 116]
abbrev freshL : List UInt8 := [99, 117, 114, 114, 101, 110, 116, 46, 110, 101, 119]
/-- what a manifest tells: its version and number, or an error -/
def loadM (n : Nat) (b : List UInt8) : Ver × Int × Int :=
  match loadB Ver.first false b with
  | some (v, true) => (v, (n : Int), 0)
  | _ => (Ver.zero, 0, 9)
/-- the version that counts -/
def loadR (r : RD) : Ver × Int × Int :=
  if r.findE currentL ≠ 0 then (Ver.zero, 0, r.findE currentL) else
  match fnum (r.readB currentL) with
  | some (k, n) => if k ≠ 109 then (Ver.zero, 0, 9) else if r.findE (r.readB currentL) ≠ 0 then (Ver.zero, 0, r.findE (r.readB currentL)) else loadM n (r.readB (r.readB currentL))
  | none => (Ver.zero, 0, 9)
/-- behind a seal of a whole version that version counts -/
theorem loadB_whole {v : Ver} (h : v.ok = true) (hf : v.whole.fits) (hl : v.whole.bytes.length < 4294967296) : loadB Ver.first false (sealL v.whole.bytes) = some (v, true) := by
  have hn : nextL (sealL v.whole.bytes) = (0, v.whole.bytes) := by have := next_seal hl []; rwa [List.append_nil] at this
  have h1 : (nextL (sealL v.whole.bytes)).1 = 0 := by rw [hn]
  have h2 : (nextL (sealL v.whole.bytes)).2 = v.whole.bytes := by rw [hn]
  have hd := decode_bytes hf
  have ha := apply_whole h
  rw [loadB_next h1 (by rw [h2, hd]) (by rw [h2, hd, ha]), h2, hd, ha]
  have hdr : (sealL v.whole.bytes).drop (8 + v.whole.bytes.length) = [] := List.drop_eq_nil_of_le (by rw [sealL_len]; exact Nat.le_refl _)
  rw [hdr, loadB_end]
  decide
def LoadPost (w : World) (x : Ver × Int × Int) (e : Ending) (w' : World) : Prop := ∃ v, e = .returned (.tuple #[v, .int .i64 x.2.1, .int .i64 x.2.2]) ∧ VerOwn w.heap.size w' v x.1 ∧ Below w.heap.size w w'
theorem VerOwn.is {B : Nat} {w : World} {v : Value} {x : Ver} {n : Nat} (h : VerOwn B w v x) (hg : x.good n) (hn : n ≤ 1000000) : VerIs w v x := by
  obtain ⟨sv, rfl, ho⟩ := h
  obtain ⟨p, c, rfl⟩ := ho.slice
  exact ⟨⟨p, c, rfl, ho.at_ rkT_ok⟩, Nat.le_trans hg.tables hn, hg.lang, hg.nums⟩
theorem EdtIs.at_ {B : Nat} {w : World} {v : Value} {x : Edt} {n : Nat} (h : EdtIs B w v x) (hg : x.good n) (hn : n ≤ 1000000) : EdtAt w v x := by
  obtain ⟨av, dv, rfl, ha, hd⟩ := h
  obtain ⟨p, c, rfl⟩ := ha.slice
  obtain ⟨p2, c2, rfl⟩ := hd.slice
  exact ⟨⟨p, c, p2, c2, rfl, ha.at_ rkT_ok, hd.at_ rkI_ok⟩, ⟨Nat.le_trans hg.add hn, Nat.le_trans hg.drop hn⟩, hg.lang, hg.langI, hg.nums⟩
end Go.Proofs.YtabcdodjkfknlaaGreatDoor
namespace Go.Proofs.YtabcdodjkfknlaaGreatDoor
open Go.RowKit
/-- bytes left and the version so far -/
structure LoAt (w wr : World) (V : Nat) (p : Option Addr) (n c : Nat) (bl : List UInt8) (v : Ver) : Prop where
  below : Below w.heap.size w wr
  bz : Blk wr w.heap.size 30 vZero
  bytes : Bytes wr (.slice p n c) bl
  low : ∀ g, (Value.slice p n c).ownBlock = some g → bl ≠ [] → g < V
  row : ∃ sv, Blk wr V 30 #[sv, .int .u64 v.floor, .int .u64 v.head, .int .i64 v.log, .int .i64 v.next] ∧ rkT.Own w.heap.size wr sv v.tables
  hV : w.heap.size < V
  good : v.good (200000 - bl.length)
  len : bl.length ≤ 200000
section
variable {w wr w' : World} {V : Nat} {p : Option Addr} {n c : Nat} {bl : List UInt8} {v v' : Ver}
theorem LoAt.later (h : LoAt w wr V p n c bl v) (hb : Below wr.heap.size wr w') : LoAt w w' V p n c bl v := by
  obtain ⟨h1, h2, h3, h4, ⟨sv, h5, h6⟩, h7, h8, h9⟩ := h
  exact ⟨h1.trans (hb.mono h1.size), h2.below hb h2.lt, h3.later hb, h4, ⟨sv, h5.below hb h5.lt, h6.later hb⟩, h7, h8, h9⟩
theorem LoAt.cut (h : LoAt w wr V p n c bl v) {i : Nat} (hi : i ≤ n) (hg : v.good (200000 - (bl.drop i).length)) : LoAt w wr V (if c = i then p else p.map (·.add i)) (n - i) (c - i) (bl.drop i) v := by
  obtain ⟨h1, h2, h3, h4, h5, h7, h8, h9⟩ := h
  refine ⟨h1, h2, h3.drop hi, ?_, h5, h7, hg, by rw [List.length_drop]; omega⟩
  intro g hg hl
  refine h4 g ?_ (fun e => by rw [e] at hl; simp at hl)
  cases p with
  | none => split at hg <;> cases hg
  | some a =>
    split at hg
    · exact hg
    · have : (Value.slice (some a) n c).ownBlock = (Value.slice (some (a.add i)) (n - i) (c - i)).ownBlock := by
        show some a.block = some (a.add i).block
        rw [addK_blk]
      rw [this]; exact hg
theorem LoAt.set_ (h : LoAt w wr V p n c bl v) {sv : Value} (ho : rkT.Own w.heap.size wr sv v'.tables) (hg : v'.good (200000 - bl.length)) :
    ∃ W, ((((wr.setCell ⟨V, 0, none⟩ sv).setCell ⟨V, 1, none⟩ (.int .u64 v'.floor)).setCell ⟨V, 2, none⟩ (.int .u64 v'.head)).setCell ⟨V, 3, none⟩ (.int .i64 v'.log)).setCell ⟨V, 4, none⟩ (.int .i64 v'.next) = W ∧ LoAt w W V p n c bl v' := by
  obtain ⟨h1, h2, h3, h4, ⟨s0, h5, h6⟩, h7, h8, h9⟩ := h
  obtain ⟨W, e, hb, hk⟩ := ver_set rfl h5 sv (.int .u64 v'.floor) (.int .u64 v'.head) (.int .i64 v'.log) (.int .i64 v'.next)
  refine ⟨W, e, h1.trans (hk.below (fun j _ e => by omega) h1.size), h2.keeps hk (fun e => by omega), h3.keepsP hk fun g hg hl e => by have := h4 g hg hl; omega, h4, ⟨sv, hb, ho.keeps hk fun j hj e => ho.blk_ne h5 (by decide) (by rw [hj, e])⟩, h7, hg, h9⟩
theorem LoAt.verIs (h : LoAt w wr V p n c bl v) : ∃ sp sc, Blk wr V 30 #[.slice sp v.tables.length sc, .int .u64 v.floor, .int .u64 v.head, .int .i64 v.log, .int .i64 v.next] ∧ rkT.Own w.heap.size wr (.slice sp v.tables.length sc) v.tables ∧ VerIs wr (.agg #[.slice sp v.tables.length sc, .int .u64 v.floor, .int .u64 v.head, .int .i64 v.log, .int .i64 v.next]) v := by
  obtain ⟨h1, h2, h3, h4, ⟨s0, h5, h6⟩, h7, h8, h9⟩ := h
  obtain ⟨sp, sc, rfl⟩ := h6.slice
  exact ⟨sp, sc, h5, h6, VerOwn.is ⟨_, rfl, h6⟩ h8 (by omega)⟩
end
theorem Edt.good.mono {e : Edt} {n m : Nat} (h : e.good n) (hn : n ≤ m) : e.good m := ⟨Nat.le_trans h.add hn, Nat.le_trans h.drop hn, h.lang, h.langI, h.nums⟩
theorem Ver.good.mono {e : Ver} {n m : Nat} (h : e.good n) (hn : n ≤ m) : e.good m := ⟨Nat.le_trans h.tables hn, h.lang, h.nums⟩
theorem first_good (n : Nat) : Ver.first.good n := ⟨Nat.zero_le _, fun _ h => (by cases h), by decide⟩
end Go.Proofs.YtabcdodjkfknlaaGreatDoor
