/- A statement that draws its order, walked in few orders: what only reads is taken first; of the others one comes, or one of two. Walks: the document's names: digits. Walks: the document's names. The document's reading of a name is the same. No program in sight. Walks: the document's reading of a name. -/
import Derived.Test.YtabcdodjkfknlaaGreatDoorPL08
import Derived.Test.YtabcdodjkfknlaaGreatDoorPL15
import Derived.Test.YtabcdodjkfknlaaGreatDoorPL06
namespace Go.Proofs.YtabcdodjkfknlaaGreatDoor
open Go.RowKit
/-- a way through: the end; what is taken first; what comes because nothing else can; one of two -/
inductive Way where
  | done
  | take (i : Nat) (r : Way)
  | go (j : Nat) (r : Way)
  | both (j : Nat) (r : Way) (k : Nat) (s : Way)
def Way.len : Way → Nat
  | .done => 0
  | .take _ r => r.len + 1
  | .go _ r => r.len + 1
  | .both _ r _ s => max r.len s.len + 1
section
variable {P : Program} {ops : Array Oper} {Q : Exit → Act → World → Prop} {md : Region.Mode} {S : World → Prop} {E : Nat → Bool}
def okW (md : Region.Mode) (ops : Array Oper) (Es : List Nat) : Way → Array Bool → Bool
  | .done, listed => (Region.ready md ops listed).isEmpty
  | .take i r, listed => (Region.ready md ops listed).contains i && Region.free md ops listed i && !Es.contains i && Es.all (fun j => (ops[j]?).all fun oj => waitsFor md oj i && !listed.getD j true) && okW md ops Es r (listed.setIfInBounds i true)
  | .go j r, listed => (Region.ready md ops listed == [j]) && okW md ops Es r (listed.setIfInBounds j true)
  | .both j r k s, listed => (Region.ready md ops listed == [j, k]) && okW md ops Es r (listed.setIfInBounds j true) && okW md ops Es s (listed.setIfInBounds k true)
def wpW (P : Program) (ops : Array Oper) (Q : Exit → Act → World → Prop) (S : World → Prop) (Es : List Nat) : Way → Act → World → Prop
  | .done, a, w => Q .normal a w
  | .take i r, a, w => ∃ oi v, ops[i]? = some oi ∧ YieldsIf P ops S oi v a ∧ wpW P ops Q S Es r (a.put oi.dst v) w
  | .go j r, a, w => wpOp P ops Q j (fun a' w' => (Es.contains j = false → S w') ∧ wpW P ops Q S Es r a' w') a w
  | .both j r k s, a, w => wpOp P ops Q j (fun a' w' => (Es.contains j = false → S w') ∧ wpW P ops Q S Es r a' w') a w ∧ wpOp P ops Q k (fun a' w' => (Es.contains k = false → S w') ∧ wpW P ops Q S Es s a' w') a w
theorem wpW_take {Es : List Nat} {i : Nat} {r : Way} {d : Option Tmp} {op : Op} {ty : TypeId} {pos : String} {af : Array Edge} {g : Option (Nat × Bool)} {v : Value} {a : Act} {w : World} (hi : ops[i]? = some ⟨d, op, ty, pos, af, g⟩) (hy : YieldsIf P ops S ⟨d, op, ty, pos, af, g⟩ v a) (h : wpW P ops Q S Es r (a.put d v) w) : wpW P ops Q S Es (.take i r) a w := ⟨_, v, hi, hy, h⟩
theorem wpW_go {Es : List Nat} {j : Nat} {r : Way} {d : Option Tmp} {op : Op} {ty : TypeId} {pos : String} {af : Array Edge} {g : Option (Nat × Bool)} {a : Act} {w : World} (hj : ops[j]? = some ⟨d, op, ty, pos, af, g⟩) (h : wpList P ops (onNormal (fun a' w' => (Es.contains j = false → S w') ∧ wpW P ops Q S Es r a' w') Q) [⟨d, op, ty, pos, af, g⟩] a w) : wpW P ops Q S Es (.go j r) a w := wpOp_one hj h
theorem wpW_both {Es : List Nat} {j k : Nat} {r s : Way} {d : Option Tmp} {op : Op} {ty : TypeId} {pos : String} {af : Array Edge} {g : Option (Nat × Bool)} {d' : Option Tmp} {op' : Op} {ty' : TypeId} {pos' : String} {af' : Array Edge} {g' : Option (Nat × Bool)} {a : Act} {w : World} (hj : ops[j]? = some ⟨d, op, ty, pos, af, g⟩) (hk : ops[k]? = some ⟨d', op', ty', pos', af', g'⟩)
    (h : wpList P ops (onNormal (fun a' w' => (Es.contains j = false → S w') ∧ wpW P ops Q S Es r a' w') Q) [⟨d, op, ty, pos, af, g⟩] a w) (h' : wpList P ops (onNormal (fun a' w' => (Es.contains k = false → S w') ∧ wpW P ops Q S Es s a' w') Q) [⟨d', op', ty', pos', af', g'⟩] a w) : wpW P ops Q S Es (.both j r k s) a w := ⟨wpOp_one hj h, wpOp_one hk h'⟩
theorem wpW_done {Es : List Nat} {a : Act} {w : World} (h : Q .normal a w) : wpW P ops Q S Es .done a w := h
theorem ready_un {Es : List Nat} {listed : Array Bool} {i : Nat} {w : World} (hir : i ∈ Region.ready md ops listed) (h3 : Es.contains i = false → S w) (hno : ∀ j ∈ Es, (ops[j]?).isSome = true → (listed.setIfInBounds i true).getD j true = false) : S w := by
  cases hc : Es.contains i with
  | false => exact h3 hc
  | true =>
    have hiE : i ∈ Es := by simpa using hc
    obtain ⟨hjun, oj, hoj, _⟩ := mem_ready.1 hir
    have := hno i hiE (by rw [hoj]; rfl)
    have hlt : i < listed.size := by
      rcases Nat.lt_or_ge i listed.size with h' | h'
      · exact h'
      · rw [Array.getD, dif_neg (by omega)] at hjun; cases hjun
    rw [Array.getD, dif_pos (by simpa using hlt)] at this
    simp at this
theorem wpAnyX_of_w {Es : List Nat} (hsel : Region.noSelect ops = true) (hQ : ∀ c a t v w, Q (.panic c) (a.put (some t) v) w → Q (.panic c) a w) : ∀ (sc : Way) (fuel : Nat) (listed : Array Bool) (a : Act) (w : World),
    okW md ops Es sc listed = true → sc.len ≤ fuel → ((∀ j ∈ Es, (ops[j]?).isSome = true → listed.getD j true = false) → S w) → wpW P ops Q S Es sc a w → wpAnyX P md ops Q S (fun j => Es.contains j) fuel listed a w
  | .done, fuel, listed, a, w, hok, _, _, h => by
    have hr : Region.ready md ops listed = [] := List.isEmpty_iff.1 hok
    cases fuel with
    | zero => exact ⟨hr, h⟩
    | succ f => exact ⟨fun _ => h, by rw [hr]; simp⟩
  | .take i r, 0, listed, a, w, _, hf, _, _ => by simp [Way.len] at hf
  | .go i r, 0, listed, a, w, _, hf, _, _ => by simp [Way.len] at hf
  | .both i r k s, 0, listed, a, w, _, hf, _, _ => by simp [Way.len] at hf
  | .take i r, fuel + 1, listed, a, w, hok, hf, hS, h => by
    unfold okW at hok
    simp only [Bool.and_eq_true, Bool.not_eq_true', List.all_eq_true] at hok
    obtain ⟨⟨⟨⟨h1, h2⟩, h3⟩, h4⟩, h5⟩ := hok
    obtain ⟨oi, v, hi, hy, h⟩ := h
    have hun : ∀ j ∈ Es, (ops[j]?).isSome = true → listed.getD j true = false := by
      intro j hj hs
      obtain ⟨oj, ho⟩ := Option.isSome_iff_exists.1 hs
      have := h4 j hj
      rw [ho] at this
      simp only [Option.all_some, Bool.and_eq_true, Bool.not_eq_true'] at this
      exact this.2
    have hSw := hS hun
    refine wpAnyX_first hi (Region.noSelect_spec hsel) (fun c a w hh => by
      cases hd : oi.dst with
      | none => rw [hd] at hh; exact hh
      | some t => rw [hd] at hh; exact hQ c a t _ w hh) (fun j oj ho hj => ?_) h3 fuel listed a w (Region.free_spec hi h2) (by simpa using h1) hy hSw ?_
    · have := h4 j (by simpa using hj)
      rw [ho] at this
      simp only [Option.all_some, Bool.and_eq_true] at this
      exact this.1
    · exact wpAnyX_of_w hsel hQ r fuel _ _ _ h5 (by simp only [Way.len] at hf; omega) (fun _ => hSw) h
  | .go j r, fuel + 1, listed, a, w, hok, hf, _, h => by
    unfold okW at hok
    simp only [Bool.and_eq_true, beq_iff_eq] at hok
    obtain ⟨h1, h2⟩ := hok
    refine ⟨fun h0 => (by rw [h0] at h1; cases h1), fun i hi => ?_⟩
    have hir := hi
    rw [h1] at hi
    obtain rfl : i = j := by simpa using hi
    exact wpOp_mono (fun a' w' h3 => ⟨h3.1, wpAnyX_of_w hsel hQ r fuel _ a' w' h2 (by simp only [Way.len] at hf; omega) (fun hno => ready_un hir h3.1 hno) h3.2⟩) h
  | .both j r k s, fuel + 1, listed, a, w, hok, hf, _, h => by
    unfold okW at hok
    simp only [Bool.and_eq_true, beq_iff_eq] at hok
    obtain ⟨⟨h1, h2⟩, h2'⟩ := hok
    obtain ⟨h, h'⟩ := h
    refine ⟨fun h0 => (by rw [h0] at h1; cases h1), fun i hi => ?_⟩
    have hir := hi
    rw [h1] at hi
    rcases List.mem_cons.1 hi with e | e
    · subst e
      exact wpOp_mono (fun a' w' h3 => ⟨h3.1, wpAnyX_of_w hsel hQ r fuel _ a' w' h2 (by simp only [Way.len] at hf; omega) (fun hno => ready_un hir h3.1 hno) h3.2⟩) h
    · obtain rfl : i = k := by simpa using e
      exact wpOp_mono (fun a' w' h3 => ⟨h3.1, wpAnyX_of_w hsel hQ s fuel _ a' w' h2' (by simp only [Way.len] at hf; omega) (fun hno => ready_un hir h3.1 hno) h3.2⟩) h'
theorem wp_region_w {id : Nat} {a : Act} {w : World} (S : World → Prop) (Es : List Nat) (sc : Way) (hm : P.follows .mixedOrders = true) (hsel : Region.noSelect ops = true) (hok : okW .any ops Es sc (Array.replicate ops.size false) = true) (hlen : sc.len = ops.size)
    (hQ : ∀ c a t v w, Q (.panic c) (a.put (some t) v) w → Q (.panic c) a w) (hS : S w.drew) (h : wpW P ops Q S Es sc a w.drew) : (Code.region id ops true).wp P Q a w :=
  wp_region_any hm (wpAny_of_x _ _ _ _ (wpAnyX_of_w hsel hQ sc _ _ _ _ hok (Nat.le_of_eq hlen) (fun _ => hS) h))
end
end Go.Proofs.YtabcdodjkfknlaaGreatDoor
namespace Go.Proofs.YtabcdodjkfknlaaGreatDoor
open Go.RowKit
theorem conv1 (x : UInt8) (w : World) (g c : Nat) (h : w.cell? ⟨g, 0, none⟩ = some (.int .u8 x.toNat)) (hc : 1 ≤ c) : (convert 43 9 (.slice (some ⟨g, 0, none⟩) 1 c)).run Tryz.prog w = .ok (.string ⟨#[x]⟩) w :=
  bytes_string (l := [x]) (.inl (.inr ⟨g, 0, c, rfl, hc, fun i y hy => by
    rcases i with _ | i
    · obtain rfl : x = y := by simpa using hy
      exact h
    · simp at hy⟩))
set_option maxHeartbeats 2000000 in
set_option maxRecDepth 100000 in
theorem digits_calls : ∀ (n : Nat) (w : World), n ≤ 999999999 → Calls Tryz.prog 38 #[.int .i64 n] w fun e w' => e = .returned (.string ⟨(Lib.decDigits n).toArray⟩) ∧ Below w.heap.size w w' := by
  intro n
  induction n using Nat.strongRecOn with
  | ind n ih =>
    intro w hn
    by_cases h10 : n < 10
    · have hd : (⟨(Lib.decDigits n).toArray⟩ : ByteArray) = ⟨#[UInt8.ofNat (48 + n)]⟩ := by rw [Lib.decDigits, dif_pos h10]
      rw [hd]
      have hx : ((UInt8.ofNat (48 + n)).toNat : Int) = 48 + (n : Int) := by rw [UInt8.toNat_ofNat', Nat.mod_eq_of_lt (by omega)]; omega
      have hcv := conv1 (UInt8.ofNat (48 + n)) (w.alloc (.cells #[.int .u8 (48 + (n : Int))] 5)) w.heap.size 1 (by rw [(Blk.new w 5 _).cell, hx]; rfl) (Nat.le_refl _)
      generalize (⟨#[UInt8.ofNat (48 + n)]⟩ : ByteArray) = Z at *
      have t1 : (n : Int) < 10 := by omega
      have hA := Lib.hid ((Below.refl w.heap.size w).alloc (Nat.le_refl _) (.cells #[.int .u8 (48 + (n : Int))] 5))
      clear hd hx ih
      go_enter Tryz.func38, Tryz.ntmps38
      go_wp2
      go_ret
      exact ⟨rfl, hA.out⟩
    · obtain ⟨q, hq_⟩ : ∃ q : Nat, (n : Int) / 10 = (q : Int) := ⟨n / 10, by omega⟩
      have hqn : q = n / 10 := by omega
      have hd : (⟨(Lib.decDigits q).toArray⟩ : ByteArray) ++ ⟨#[UInt8.ofNat (48 + n % 10)]⟩ = ⟨(Lib.decDigits n).toArray⟩ := by
        rw [hqn]
        conv => rhs; rw [Lib.decDigits, dif_neg h10]
        apply bytes_ext; simp
      have hx : ((UInt8.ofNat (48 + n % 10)).toNat : Int) = 48 + ((n : Int) % 10) := by rw [UInt8.toNat_ofNat', Nat.mod_eq_of_lt (by omega)]; omega
      have hcvB := Lib.hid (fun (W : World) (g : Nat) (hb : Blk W g 5 #[.int .u8 (48 + ((n : Int) % 10))]) => conv1 (UInt8.ofNat (48 + n % 10)) W g 1 (by rw [hb.cell, hx]; rfl) (Nat.le_refl _))
      have hcvA := Lib.hid (fun (W : World) => hcvB.out _ W.heap.size (Blk.new W 5 #[.int .u8 (48 + ((n : Int) % 10))]))
      have hq := Lib.hid (fun W => ih q (by omega) W (by omega))
      have hqs : (⟨(Lib.decDigits q).toArray⟩ : ByteArray).size ≤ 100 := by rw [Lib.size_eq]; have := dec_len9 8 q (by omega); show (Lib.decDigits q).length ≤ _; omega
      have hzs : (⟨#[UInt8.ofNat (48 + n % 10)]⟩ : ByteArray).size = 1 := rfl
      generalize (⟨#[UInt8.ofNat (48 + n % 10)]⟩ : ByteArray) = Z at *
      generalize (⟨(Lib.decDigits q).toArray⟩ : ByteArray) = Dq at *
      have hE := Lib.hid hd
      have t1 : ¬ (n : Int) < 10 := by omega
      have hk0 : Hid (Below w.heap.size w w.drew) := Lib.hid (Below.refl _ _).drew
      clear hd hx ih hqn
      go_enter Tryz.func38, Tryz.ntmps38
      go_wp2
      refine wp_region_w (fun _ => True) [] (.take 0 (.take 1 (.take 3 (.take 4 (.take 5 (.take 6 (.both 2 (.go 7 (.go 8 (.go 9 (.go 10 .done)))) 7 (.both 2 (.go 8 (.go 9 (.go 10 .done))) 8 (.go 2 (.go 9 (.go 10 .done)))))))))) ) (by kernel_rfl) (by kernel_rfl) (by kernel_rfl) (by kernel_rfl) (fun _ _ _ _ _ h => h) trivial ?_
      repeat
        refine wpW_take (v := ?_) rfl (.inl ⟨by rfl, fun w' hS => ?_⟩) ?_
        rotate_left
        · (try dsimp only at hS); go_simp; try with_reducible rfl
        simp only [Act.put, List.setIfInBounds_toArray, List.set_cons_zero, List.set_cons_succ]
      refine wpW_both rfl rfl ?_ ?_
      · go_wp2_with fail
        refine (hq.out w.drew).mono ?_
        rintro e u1 ⟨rfl, bq⟩
        have hk_u1 := Lib.hid (hk0.out.trans (bq.mono hk0.out.size))
        clear bq
        go_wp2_with fail
        refine ⟨fun _ => trivial, ?_⟩
        have hcv := hcvA.out u1
        refine wpW_go rfl ?_
        go_wp2_with fail
        refine ⟨fun _ => trivial, ?_⟩
        refine wpW_go rfl ?_
        go_wp2_with fail
        refine ⟨fun _ => trivial, ?_⟩
        refine wpW_go rfl ?_
        go_wp2_with fail
        refine ⟨fun _ => trivial, ?_⟩
        refine wpW_go rfl ?_
        go_wp2_with fail
        refine ⟨fun _ => trivial, ?_⟩
        refine wpW_done ?_
        go_wp2_with fail
        go_ret
        exact ⟨by rw [← hE.out]; rfl, hk_u1.out.trans (((Below.refl u1.heap.size u1).alloc (Nat.le_refl _) _).mono hk_u1.out.size)⟩
      · go_wp2_with fail
        refine ⟨fun _ => trivial, ?_⟩
        obtain ⟨u1, hu1⟩ : ∃ u1, (w.alloc (.cells #[.int .u8 (48 + ((n : Int) % 10))] 5)).drew = u1 := ⟨_, rfl⟩
        have hbu : Below w.heap.size w u1 := by rw [← hu1]; exact ((Below.refl _ w).alloc (Nat.le_refl _) _).drew
        have hgu : Blk u1 w.heap.size 5 #[.int .u8 (48 + ((n : Int) % 10))] := by rw [← hu1]; exact (Blk.new w _ _).drew
        have hk_u1 := Lib.hid hbu
        have hgu' := Lib.hid hgu
        clear hbu hgu
        rw [hu1]
        refine wpW_both rfl rfl ?_ ?_
        · go_wp2_with fail
          refine (hq.out u1).mono ?_
          rintro e u2 ⟨rfl, bq⟩
          have hk_u2 := Lib.hid (hk_u1.out.trans (bq.mono hk_u1.out.size))
          have hcv := hcvB.out u2 w.heap.size (hgu'.out.below bq hgu'.out.lt)
          clear bq
          go_wp2_with fail
          refine ⟨fun _ => trivial, ?_⟩
          refine wpW_go rfl ?_
          go_wp2_with fail
          refine ⟨fun _ => trivial, ?_⟩
          refine wpW_go rfl ?_
          go_wp2_with fail
          refine ⟨fun _ => trivial, ?_⟩
          refine wpW_go rfl ?_
          go_wp2_with fail
          refine ⟨fun _ => trivial, ?_⟩
          refine wpW_done ?_
          go_wp2_with fail
          go_ret
          exact ⟨by rw [← hE.out]; rfl, hk_u2.out⟩
        · have hcv := hcvB.out u1 w.heap.size hgu'.out
          go_wp2_with fail
          refine ⟨fun _ => trivial, ?_⟩
          refine wpW_go rfl ?_
          go_wp2_with fail
          refine (hq.out u1).mono ?_
          rintro e u2 ⟨rfl, bq⟩
          have hk_u2 := Lib.hid (hk_u1.out.trans (bq.mono hk_u1.out.size))
          clear bq
          go_wp2_with fail
          refine ⟨fun _ => trivial, ?_⟩
          refine wpW_go rfl ?_
          go_wp2_with fail
          refine ⟨fun _ => trivial, ?_⟩
          refine wpW_go rfl ?_
          go_wp2_with fail
          refine ⟨fun _ => trivial, ?_⟩
          refine wpW_done ?_
          go_wp2_with fail
          go_ret
          exact ⟨by rw [← hE.out]; rfl, hk_u2.out⟩
end Go.Proofs.YtabcdodjkfknlaaGreatDoor
namespace Go.Proofs.YtabcdodjkfknlaaGreatDoor
open Go.RowKit
theorem conv2 (k : UInt8) (w : World) (g : Nat) (h : Blk w g 5 #[.int .u8 k.toNat, .int .u8 45]) : (convert 43 9 (.slice (some ⟨g, 0, none⟩) 2 2)).run Tryz.prog w = .ok (.string ⟨#[k, 45]⟩) w :=
  bytes_string (l := [k, 45]) (.inl (.inr ⟨g, 0, 2, rfl, Nat.le_refl _, fun i y hy => by
    rw [Nat.zero_add, h.cell]
    rcases i with _ | _ | i
    · obtain rfl : k = y := by simpa using hy
      rfl
    · obtain rfl : 45 = y := by simpa using hy
      rfl
    · simp at hy⟩))
set_option maxHeartbeats 2000000 in
set_option maxRecDepth 100000 in
theorem rname116 (m : Nat) (w : World) (h1 : 1 ≤ m) (h2 : m ≤ 999999999) : Calls Tryz.prog 12 #[.int .u8 116, .int .i64 m] w fun e w' => e = .returned (.string ⟨(116 :: 45 :: Lib.decDigits m).toArray⟩) ∧ Below w.heap.size w w' := by
  have hd : (⟨#[116, 45]⟩ : ByteArray) ++ ⟨(Lib.decDigits m).toArray⟩ = ⟨(116 :: 45 :: Lib.decDigits m).toArray⟩ := by apply bytes_ext; simp
  have hcvB := Lib.hid (fun (W : World) (g : Nat) (hb : Blk W g 5 #[.int .u8 116, .int .u8 45]) => conv2 116 W g hb)
  have hq := Lib.hid (fun W => digits_calls m W (by omega))
  have hqs : (⟨(Lib.decDigits m).toArray⟩ : ByteArray).size ≤ 100 := by rw [Lib.size_eq]; have := dec_len9 8 m (by omega); show (Lib.decDigits m).length ≤ _; omega
  have hzs : (⟨#[116, 45]⟩ : ByteArray).size = 2 := rfl
  generalize (⟨#[116, 45]⟩ : ByteArray) = Z at *
  generalize (⟨(Lib.decDigits m).toArray⟩ : ByteArray) = Dq at *
  have hE := Lib.hid hd
  have t1 : ¬ (m : Int) < 1 := by omega
  have t2 : ¬ 999999999 < (m : Int) := by omega
  have hk0 : Hid (Below w.heap.size w w.drew) := Lib.hid (Below.refl _ _).drew
  clear hd
  go_enter Tryz.func12, Tryz.ntmps12
  go_wp2
  refine wp_region_w (fun _ => True) [] (.take 0 (.take 3 (.both 1 (.both 2 (.go 4 (.go 5 (.go 6 .done))) 4 (.go 2 (.go 5 (.go 6 .done)))) 4 (.go 1 (.go 2 (.go 5 (.go 6 .done))))))) (by kernel_rfl) (by kernel_rfl) (by kernel_rfl) (by kernel_rfl) (fun _ _ _ _ _ h => h) trivial ?_
  repeat
    refine wpW_take (v := ?_) rfl (.inl ⟨by rfl, fun w' hS => ?_⟩) ?_
    rotate_left
    · (try dsimp only at hS); go_simp; try with_reducible rfl
    simp only [Act.put, List.setIfInBounds_toArray, List.set_cons_zero, List.set_cons_succ]
  refine wpW_both rfl rfl ?_ ?_
  · go_wp2_with fail
    refine ⟨fun _ => trivial, ?_⟩
    obtain ⟨u1, hu1⟩ : ∃ u1, (w.alloc (.cells #[.int .u8 116, .int .u8 45] 5)).drew = u1 := ⟨_, rfl⟩
    have hbu : Below w.heap.size w u1 := by rw [← hu1]; exact ((Below.refl _ w).alloc (Nat.le_refl _) _).drew
    have hgu : Blk u1 w.heap.size 5 #[.int .u8 116, .int .u8 45] := by rw [← hu1]; exact (Blk.new w _ _).drew
    have hk_u1 := Lib.hid hbu
    have hgu' := Lib.hid hgu
    clear hbu hgu
    rw [hu1]
    refine wpW_both rfl rfl ?_ ?_
    · have hcv := hcvB.out u1 w.heap.size hgu'.out
      go_wp2_with fail
      refine ⟨fun _ => trivial, ?_⟩
      refine wpW_go rfl ?_
      go_wp2_with fail
      refine (hq.out u1).mono ?_
      rintro e u2 ⟨rfl, bq⟩
      have hk_u2 := Lib.hid (hk_u1.out.trans (bq.mono hk_u1.out.size))
      clear bq
      go_wp2_with fail
      refine ⟨fun _ => trivial, ?_⟩
      refine wpW_go rfl ?_
      go_wp2_with fail
      refine ⟨fun _ => trivial, ?_⟩
      refine wpW_go rfl ?_
      go_wp2_with fail
      refine ⟨fun _ => trivial, ?_⟩
      refine wpW_done ?_
      go_wp2_with fail
      go_ret
      exact ⟨by rw [← hE.out]; rfl, hk_u2.out⟩
    · go_wp2_with fail
      refine (hq.out u1).mono ?_
      rintro e u2 ⟨rfl, bq⟩
      have hk_u2 := Lib.hid (hk_u1.out.trans (bq.mono hk_u1.out.size))
      have hcv := hcvB.out u2 w.heap.size (hgu'.out.below bq hgu'.out.lt)
      clear bq
      go_wp2_with fail
      refine ⟨fun _ => trivial, ?_⟩
      refine wpW_go rfl ?_
      go_wp2_with fail
      refine ⟨fun _ => trivial, ?_⟩
      refine wpW_go rfl ?_
      go_wp2_with fail
      refine ⟨fun _ => trivial, ?_⟩
      refine wpW_go rfl ?_
      go_wp2_with fail
      refine ⟨fun _ => trivial, ?_⟩
      refine wpW_done ?_
      go_wp2_with fail
      go_ret
      exact ⟨by rw [← hE.out]; rfl, hk_u2.out⟩
  · go_wp2_with fail
    refine (hq.out w.drew).mono ?_
    rintro e u1 ⟨rfl, bq⟩
    have hk_u1 := Lib.hid (hk0.out.trans (bq.mono hk0.out.size))
    clear bq
    go_wp2_with fail
    refine ⟨fun _ => trivial, ?_⟩
    have hcv := hcvB.out _ u1.heap.size (Blk.new u1 5 #[.int .u8 116, .int .u8 45])
    refine wpW_go rfl ?_
    go_wp2_with fail
    refine ⟨fun _ => trivial, ?_⟩
    refine wpW_go rfl ?_
    go_wp2_with fail
    refine ⟨fun _ => trivial, ?_⟩
    refine wpW_go rfl ?_
    go_wp2_with fail
    refine ⟨fun _ => trivial, ?_⟩
    refine wpW_go rfl ?_
    go_wp2_with fail
    refine ⟨fun _ => trivial, ?_⟩
    refine wpW_done ?_
    go_wp2_with fail
    go_ret
    exact ⟨by rw [← hE.out]; rfl, hk_u1.out.trans (((Below.refl u1.heap.size u1).alloc (Nat.le_refl _) _).mono hk_u1.out.size)⟩
set_option maxRecDepth 100000 in
theorem rbad116 (n : Int) (w : World) (h : n < 1 ∨ 999999999 < n) : Calls Tryz.prog 12 #[.int .u8 116, .int .i64 n] w fun e w' => e = .returned (.string ⟨#[]⟩) ∧ Below w.heap.size w w' := by
  by_cases h1 : n < 1
  · clear h
    go_enter Tryz.func12, Tryz.ntmps12
    go_wp2
    go_ret
    exact ⟨rfl, Below.refl _ _⟩
  · have h2 : 999999999 < n := h.resolve_left h1
    clear h
    go_enter Tryz.func12, Tryz.ntmps12
    go_wp2
    go_ret
    exact ⟨rfl, Below.refl _ _⟩
set_option maxHeartbeats 2000000 in
set_option maxRecDepth 100000 in
theorem rname119 (m : Nat) (w : World) (h1 : 1 ≤ m) (h2 : m ≤ 999999999) : Calls Tryz.prog 12 #[.int .u8 119, .int .i64 m] w fun e w' => e = .returned (.string ⟨(119 :: 45 :: Lib.decDigits m).toArray⟩) ∧ Below w.heap.size w w' := by
  have hd : (⟨#[119, 45]⟩ : ByteArray) ++ ⟨(Lib.decDigits m).toArray⟩ = ⟨(119 :: 45 :: Lib.decDigits m).toArray⟩ := by apply bytes_ext; simp
  have hcvB := Lib.hid (fun (W : World) (g : Nat) (hb : Blk W g 5 #[.int .u8 119, .int .u8 45]) => conv2 119 W g hb)
  have hq := Lib.hid (fun W => digits_calls m W (by omega))
  have hqs : (⟨(Lib.decDigits m).toArray⟩ : ByteArray).size ≤ 100 := by rw [Lib.size_eq]; have := dec_len9 8 m (by omega); show (Lib.decDigits m).length ≤ _; omega
  have hzs : (⟨#[119, 45]⟩ : ByteArray).size = 2 := rfl
  generalize (⟨#[119, 45]⟩ : ByteArray) = Z at *
  generalize (⟨(Lib.decDigits m).toArray⟩ : ByteArray) = Dq at *
  have hE := Lib.hid hd
  have t1 : ¬ (m : Int) < 1 := by omega
  have t2 : ¬ 999999999 < (m : Int) := by omega
  have hk0 : Hid (Below w.heap.size w w.drew) := Lib.hid (Below.refl _ _).drew
  clear hd
  go_enter Tryz.func12, Tryz.ntmps12
  go_wp2
  refine wp_region_w (fun _ => True) [] (.take 0 (.take 3 (.both 1 (.both 2 (.go 4 (.go 5 (.go 6 .done))) 4 (.go 2 (.go 5 (.go 6 .done)))) 4 (.go 1 (.go 2 (.go 5 (.go 6 .done))))))) (by kernel_rfl) (by kernel_rfl) (by kernel_rfl) (by kernel_rfl) (fun _ _ _ _ _ h => h) trivial ?_
  repeat
    refine wpW_take (v := ?_) rfl (.inl ⟨by rfl, fun w' hS => ?_⟩) ?_
    rotate_left
    · (try dsimp only at hS); go_simp; try with_reducible rfl
    simp only [Act.put, List.setIfInBounds_toArray, List.set_cons_zero, List.set_cons_succ]
  refine wpW_both rfl rfl ?_ ?_
  · go_wp2_with fail
    refine ⟨fun _ => trivial, ?_⟩
    obtain ⟨u1, hu1⟩ : ∃ u1, (w.alloc (.cells #[.int .u8 119, .int .u8 45] 5)).drew = u1 := ⟨_, rfl⟩
    have hbu : Below w.heap.size w u1 := by rw [← hu1]; exact ((Below.refl _ w).alloc (Nat.le_refl _) _).drew
    have hgu : Blk u1 w.heap.size 5 #[.int .u8 119, .int .u8 45] := by rw [← hu1]; exact (Blk.new w _ _).drew
    have hk_u1 := Lib.hid hbu
    have hgu' := Lib.hid hgu
    clear hbu hgu
    rw [hu1]
    refine wpW_both rfl rfl ?_ ?_
    · have hcv := hcvB.out u1 w.heap.size hgu'.out
      go_wp2_with fail
      refine ⟨fun _ => trivial, ?_⟩
      refine wpW_go rfl ?_
      go_wp2_with fail
      refine (hq.out u1).mono ?_
      rintro e u2 ⟨rfl, bq⟩
      have hk_u2 := Lib.hid (hk_u1.out.trans (bq.mono hk_u1.out.size))
      clear bq
      go_wp2_with fail
      refine ⟨fun _ => trivial, ?_⟩
      refine wpW_go rfl ?_
      go_wp2_with fail
      refine ⟨fun _ => trivial, ?_⟩
      refine wpW_go rfl ?_
      go_wp2_with fail
      refine ⟨fun _ => trivial, ?_⟩
      refine wpW_done ?_
      go_wp2_with fail
      go_ret
      exact ⟨by rw [← hE.out]; rfl, hk_u2.out⟩
    · go_wp2_with fail
      refine (hq.out u1).mono ?_
      rintro e u2 ⟨rfl, bq⟩
      have hk_u2 := Lib.hid (hk_u1.out.trans (bq.mono hk_u1.out.size))
      have hcv := hcvB.out u2 w.heap.size (hgu'.out.below bq hgu'.out.lt)
      clear bq
      go_wp2_with fail
      refine ⟨fun _ => trivial, ?_⟩
      refine wpW_go rfl ?_
      go_wp2_with fail
      refine ⟨fun _ => trivial, ?_⟩
      refine wpW_go rfl ?_
      go_wp2_with fail
      refine ⟨fun _ => trivial, ?_⟩
      refine wpW_go rfl ?_
      go_wp2_with fail
      refine ⟨fun _ => trivial, ?_⟩
      refine wpW_done ?_
      go_wp2_with fail
      go_ret
      exact ⟨by rw [← hE.out]; rfl, hk_u2.out⟩
  · go_wp2_with fail
    refine (hq.out w.drew).mono ?_
    rintro e u1 ⟨rfl, bq⟩
    have hk_u1 := Lib.hid (hk0.out.trans (bq.mono hk0.out.size))
    clear bq
    go_wp2_with fail
    refine ⟨fun _ => trivial, ?_⟩
    have hcv := hcvB.out _ u1.heap.size (Blk.new u1 5 #[.int .u8 119, .int .u8 45])
    refine wpW_go rfl ?_
    go_wp2_with fail
    refine ⟨fun _ => trivial, ?_⟩
    refine wpW_go rfl ?_
    go_wp2_with fail
    refine ⟨fun _ => trivial, ?_⟩
    refine wpW_go rfl ?_
    go_wp2_with fail
    refine ⟨fun _ => trivial, ?_⟩
    refine wpW_go rfl ?_
    go_wp2_with fail
    refine ⟨fun _ => trivial, ?_⟩
    refine wpW_done ?_
    go_wp2_with fail
    go_ret
    exact ⟨by rw [← hE.out]; rfl, hk_u1.out.trans (((Below.refl u1.heap.size u1).alloc (Nat.le_refl _) _).mono hk_u1.out.size)⟩
set_option maxRecDepth 100000 in
theorem rbad119 (n : Int) (w : World) (h : n < 1 ∨ 999999999 < n) : Calls Tryz.prog 12 #[.int .u8 119, .int .i64 n] w fun e w' => e = .returned (.string ⟨#[]⟩) ∧ Below w.heap.size w w' := by
  by_cases h1 : n < 1
  · clear h
    go_enter Tryz.func12, Tryz.ntmps12
    go_wp2
    go_ret
    exact ⟨rfl, Below.refl _ _⟩
  · have h2 : 999999999 < n := h.resolve_left h1
    clear h
    go_enter Tryz.func12, Tryz.ntmps12
    go_wp2
    go_ret
    exact ⟨rfl, Below.refl _ _⟩
set_option maxHeartbeats 2000000 in
set_option maxRecDepth 100000 in
theorem rname109 (m : Nat) (w : World) (h1 : 1 ≤ m) (h2 : m ≤ 999999999) : Calls Tryz.prog 12 #[.int .u8 109, .int .i64 m] w fun e w' => e = .returned (.string ⟨(109 :: 45 :: Lib.decDigits m).toArray⟩) ∧ Below w.heap.size w w' := by
  have hd : (⟨#[109, 45]⟩ : ByteArray) ++ ⟨(Lib.decDigits m).toArray⟩ = ⟨(109 :: 45 :: Lib.decDigits m).toArray⟩ := by apply bytes_ext; simp
  have hcvB := Lib.hid (fun (W : World) (g : Nat) (hb : Blk W g 5 #[.int .u8 109, .int .u8 45]) => conv2 109 W g hb)
  have hq := Lib.hid (fun W => digits_calls m W (by omega))
  have hqs : (⟨(Lib.decDigits m).toArray⟩ : ByteArray).size ≤ 100 := by rw [Lib.size_eq]; have := dec_len9 8 m (by omega); show (Lib.decDigits m).length ≤ _; omega
  have hzs : (⟨#[109, 45]⟩ : ByteArray).size = 2 := rfl
  generalize (⟨#[109, 45]⟩ : ByteArray) = Z at *
  generalize (⟨(Lib.decDigits m).toArray⟩ : ByteArray) = Dq at *
  have hE := Lib.hid hd
  have t1 : ¬ (m : Int) < 1 := by omega
  have t2 : ¬ 999999999 < (m : Int) := by omega
  have hk0 : Hid (Below w.heap.size w w.drew) := Lib.hid (Below.refl _ _).drew
  clear hd
  go_enter Tryz.func12, Tryz.ntmps12
  go_wp2
  refine wp_region_w (fun _ => True) [] (.take 0 (.take 3 (.both 1 (.both 2 (.go 4 (.go 5 (.go 6 .done))) 4 (.go 2 (.go 5 (.go 6 .done)))) 4 (.go 1 (.go 2 (.go 5 (.go 6 .done))))))) (by kernel_rfl) (by kernel_rfl) (by kernel_rfl) (by kernel_rfl) (fun _ _ _ _ _ h => h) trivial ?_
  repeat
    refine wpW_take (v := ?_) rfl (.inl ⟨by rfl, fun w' hS => ?_⟩) ?_
    rotate_left
    · (try dsimp only at hS); go_simp; try with_reducible rfl
    simp only [Act.put, List.setIfInBounds_toArray, List.set_cons_zero, List.set_cons_succ]
  refine wpW_both rfl rfl ?_ ?_
  · go_wp2_with fail
    refine ⟨fun _ => trivial, ?_⟩
    obtain ⟨u1, hu1⟩ : ∃ u1, (w.alloc (.cells #[.int .u8 109, .int .u8 45] 5)).drew = u1 := ⟨_, rfl⟩
    have hbu : Below w.heap.size w u1 := by rw [← hu1]; exact ((Below.refl _ w).alloc (Nat.le_refl _) _).drew
    have hgu : Blk u1 w.heap.size 5 #[.int .u8 109, .int .u8 45] := by rw [← hu1]; exact (Blk.new w _ _).drew
    have hk_u1 := Lib.hid hbu
    have hgu' := Lib.hid hgu
    clear hbu hgu
    rw [hu1]
    refine wpW_both rfl rfl ?_ ?_
    · have hcv := hcvB.out u1 w.heap.size hgu'.out
      go_wp2_with fail
      refine ⟨fun _ => trivial, ?_⟩
      refine wpW_go rfl ?_
      go_wp2_with fail
      refine (hq.out u1).mono ?_
      rintro e u2 ⟨rfl, bq⟩
      have hk_u2 := Lib.hid (hk_u1.out.trans (bq.mono hk_u1.out.size))
      clear bq
      go_wp2_with fail
      refine ⟨fun _ => trivial, ?_⟩
      refine wpW_go rfl ?_
      go_wp2_with fail
      refine ⟨fun _ => trivial, ?_⟩
      refine wpW_go rfl ?_
      go_wp2_with fail
      refine ⟨fun _ => trivial, ?_⟩
      refine wpW_done ?_
      go_wp2_with fail
      go_ret
      exact ⟨by rw [← hE.out]; rfl, hk_u2.out⟩
    · go_wp2_with fail
      refine (hq.out u1).mono ?_
      rintro e u2 ⟨rfl, bq⟩
      have hk_u2 := Lib.hid (hk_u1.out.trans (bq.mono hk_u1.out.size))
      have hcv := hcvB.out u2 w.heap.size (hgu'.out.below bq hgu'.out.lt)
      clear bq
      go_wp2_with fail
      refine ⟨fun _ => trivial, ?_⟩
      refine wpW_go rfl ?_
      go_wp2_with fail
      refine ⟨fun _ => trivial, ?_⟩
      refine wpW_go rfl ?_
      go_wp2_with fail
      refine ⟨fun _ => trivial, ?_⟩
      refine wpW_go rfl ?_
      go_wp2_with fail
      refine ⟨fun _ => trivial, ?_⟩
      refine wpW_done ?_
      go_wp2_with fail
      go_ret
      exact ⟨by rw [← hE.out]; rfl, hk_u2.out⟩
  · go_wp2_with fail
    refine (hq.out w.drew).mono ?_
    rintro e u1 ⟨rfl, bq⟩
    have hk_u1 := Lib.hid (hk0.out.trans (bq.mono hk0.out.size))
    clear bq
    go_wp2_with fail
    refine ⟨fun _ => trivial, ?_⟩
    have hcv := hcvB.out _ u1.heap.size (Blk.new u1 5 #[.int .u8 109, .int .u8 45])
    refine wpW_go rfl ?_
    go_wp2_with fail
    refine ⟨fun _ => trivial, ?_⟩
    refine wpW_go rfl ?_
    go_wp2_with fail
    refine ⟨fun _ => trivial, ?_⟩
    refine wpW_go rfl ?_
    go_wp2_with fail
    refine ⟨fun _ => trivial, ?_⟩
    refine wpW_go rfl ?_
    go_wp2_with fail
    refine ⟨fun _ => trivial, ?_⟩
    refine wpW_done ?_
    go_wp2_with fail
    go_ret
    exact ⟨by rw [← hE.out]; rfl, hk_u1.out.trans (((Below.refl u1.heap.size u1).alloc (Nat.le_refl _) _).mono hk_u1.out.size)⟩
set_option maxRecDepth 100000 in
theorem rbad109 (n : Int) (w : World) (h : n < 1 ∨ 999999999 < n) : Calls Tryz.prog 12 #[.int .u8 109, .int .i64 n] w fun e w' => e = .returned (.string ⟨#[]⟩) ∧ Below w.heap.size w w' := by
  by_cases h1 : n < 1
  · clear h
    go_enter Tryz.func12, Tryz.ntmps12
    go_wp2
    go_ret
    exact ⟨rfl, Below.refl _ _⟩
  · have h2 : 999999999 < n := h.resolve_left h1
    clear h
    go_enter Tryz.func12, Tryz.ntmps12
    go_wp2
    go_ret
    exact ⟨rfl, Below.refl _ _⟩
set_option maxRecDepth 100000 in
theorem rbad (k : UInt8) (n : Int) (w : World) (h1 : ¬ (k.toNat : Int) = 116) (h2 : ¬ (k.toNat : Int) = 119) (h3 : ¬ (k.toNat : Int) = 109) : Calls Tryz.prog 12 #[.int .u8 k.toNat, .int .i64 n] w fun e w' => e = .returned (.string ⟨#[]⟩) ∧ Below w.heap.size w w' := by
  go_enter Tryz.func12, Tryz.ntmps12
  go_wp2
  go_ret
  exact ⟨rfl, Below.refl _ _⟩
theorem refName_calls (k : UInt8) (n : Int) (w : World) : Calls Tryz.prog 12 #[.int .u8 k.toNat, .int .i64 n] w fun e w' => e = .returned (.string ⟨(fname k n.toNat).toArray⟩) ∧ Below w.heap.size w w' := by
  by_cases hk : fkind k = true
  · by_cases hn : n < 1 ∨ 999999999 < n
    · have hf : fname k n.toNat = [] := by unfold fname; rw [if_neg]; rintro ⟨_, a, b⟩; omega
      rw [hf]
      unfold fkind at hk
      simp only [Bool.or_eq_true, beq_iff_eq] at hk
      rcases hk with (rfl | rfl) | rfl
      · exact rbad116 n w hn
      · exact rbad119 n w hn
      · exact rbad109 n w hn
    · obtain ⟨m, rfl⟩ : ∃ m : Nat, n = (m : Int) := ⟨n.toNat, by omega⟩
      have hf : fname k (m : Int).toNat = k :: 45 :: Lib.decDigits m := by unfold fname; rw [if_pos ⟨hk, by omega, by omega⟩]; rfl
      rw [hf]
      unfold fkind at hk
      simp only [Bool.or_eq_true, beq_iff_eq] at hk
      rcases hk with (rfl | rfl) | rfl
      · exact rname116 m w (by omega) (by omega)
      · exact rname119 m w (by omega) (by omega)
      · exact rname109 m w (by omega) (by omega)
  · have hf : fname k n.toNat = [] := by unfold fname; rw [if_neg]; rintro ⟨a, _⟩; exact hk a
    rw [hf]
    unfold fkind at hk
    have hne : ∀ c : UInt8, ¬ k = c → ¬ (k.toNat : Int) = (c.toNat : Int) := fun c h e => h (UInt8.toNat_inj.1 (by omega))
    simp only [Bool.or_eq_true, beq_iff_eq, not_or] at hk
    exact rbad k n w (hne 116 hk.1.1) (hne 119 hk.1.2) (hne 109 hk.2)
end Go.Proofs.YtabcdodjkfknlaaGreatDoor
namespace Go.Proofs.YtabcdodjkfknlaaGreatDoor
def dig (x : UInt8) : Bool := decide (48 ≤ x.toNat) && decide (x.toNat ≤ 57)
theorem dec_len1 (n : Nat) : 1 ≤ (Lib.decDigits n).length := by
  have := dec_ne n
  cases h : Lib.decDigits n with
  | nil => exact absurd h this
  | cons a l => simp
/-- the document's way: the length, the digits, the name again -/
theorem fnum_ref (l : List UInt8) : fnum l = if 3 ≤ l.length ∧ l.length ≤ 11 ∧ (l.drop 2).all dig = true ∧ fname (l.headD 0) (numL (l.drop 2)) = l then some (l.headD 0, numL (l.drop 2)) else none := by
  cases hf : fnum l with
  | some p =>
    obtain ⟨k, n⟩ := p
    obtain ⟨h1, h2⟩ := fnum_back hf
    obtain ⟨_, _, a3, rfl⟩ := fname_form h1 h2
    have h3 := dec_len1 n
    have h4 := dec_len9 8 n (by omega)
    have hd : (k :: 45 :: Lib.decDigits n).drop 2 = Lib.decDigits n := rfl
    rw [hd, numL_dec, if_pos]
    · rfl
    · refine ⟨by simp; omega, by simp; omega, ?_, h1⟩
      rw [List.all_eq_true]
      intro x hx
      have := dec_digit n x hx
      simp [dig, this]
  | none =>
    rw [if_neg]
    rintro ⟨h1, _, _, h4⟩
    have hl : l ≠ [] := by rintro rfl; simp at h1
    rw [fnum_of h4 hl] at hf
    cases hf
theorem numL_take {l : List UInt8} {k : Nat} {x : UInt8} (h : l[k]? = some x) : numL (l.take (k + 1)) = numL (l.take k) * 10 + (x.toNat - 48) := by
  rw [List.take_add_one, h]
  exact numL_snoc _ x
theorem numL_lt : ∀ (b : Nat) (l : List UInt8), l.length ≤ b → l.all dig = true → numL l < 10 ^ b := by
  intro b
  induction b with
  | zero =>
    intro l hl _
    have : l = [] := List.length_eq_zero_iff.1 (by omega)
    subst this
    decide
  | succ b ih =>
    intro l hl hd
    rcases List.eq_nil_or_concat l with rfl | ⟨a, x, rfl⟩
    · exact Nat.pos_of_ne_zero (by simp)
    · rw [List.concat_eq_append] at hl hd ⊢
      rw [numL_snoc]
      rw [List.all_append, Bool.and_eq_true] at hd
      have h1 := ih a (by simp at hl; omega) hd.1
      have h2 : x.toNat - 48 ≤ 9 := by
        have := hd.2
        simp [dig] at this
        omega
      rw [Nat.pow_succ]
      omega
end Go.Proofs.YtabcdodjkfknlaaGreatDoor
namespace Go.Proofs.YtabcdodjkfknlaaGreatDoor
open Go.RowKit
/-- the number that the digits up to k tell -/
def DigR (l : List UInt8) (k N : Nat) : Prop := N = numL ((l.drop 2).take (k - 2)) ∧ ((l.drop 2).take (k - 2)).all dig = true ∧ 2 ≤ k ∧ k ≤ l.length
theorem DigR.start {l : List UInt8} (h : 2 ≤ l.length) : DigR l 2 0 := ⟨rfl, rfl, Nat.le_refl _, h⟩
theorem DigR.step {l : List UInt8} {k N : Nat} {x : UInt8} (h : DigR l k N) (hx : l[k]? = some x) (hd : dig x = true) : DigR l (k + 1) (N * 10 + (x.toNat - 48)) := by
  obtain ⟨h1, h2, h3, h4⟩ := h
  have hlt := (List.getElem?_eq_some_iff.1 hx).1
  have e : (l.drop 2)[k - 2]? = some x := by rw [List.getElem?_drop, show 2 + (k - 2) = k by omega]; exact hx
  have e2 : k + 1 - 2 = (k - 2) + 1 := by omega
  refine ⟨?_, ?_, by omega, by omega⟩
  · rw [e2, numL_take e, h1]
  · rw [e2, List.take_add_one, e, List.all_append, h2]
    simpa using hd
theorem DigR.lt {l : List UInt8} {k N : Nat} (h : DigR l k N) (hl : l.length ≤ 11) : N < 1000000000 := by
  obtain ⟨h1, h2, h3, h4⟩ := h
  rw [h1]
  exact numL_lt 9 _ (by rw [List.length_take]; omega) h2
/-- a sign that is no digit: the text is no name -/
theorem fnum_bad {l : List UInt8} {k : Nat} {x : UInt8} (hx : l[k]? = some x) (hk : 2 ≤ k) (hd : dig x = false) : fnum l = none := by
  rw [fnum_ref, if_neg]
  rintro ⟨_, _, h3, _⟩
  rw [List.all_eq_true] at h3
  have : x ∈ l.drop 2 := List.mem_of_getElem? (i := k - 2) (by rw [List.getElem?_drop, show 2 + (k - 2) = k by omega]; exact hx)
  rw [h3 x this] at hd
  cases hd
theorem fnum_end {l : List UInt8} {N : Nat} {x : UInt8} (h : DigR l l.length N) (h3 : 3 ≤ l.length) (h11 : l.length ≤ 11) (hx : l[0]? = some x) : fnum l = if fname x N = l then some (x, N) else none := by
  obtain ⟨h1, h2, _, _⟩ := h
  have e : (l.drop 2).take (l.length - 2) = l.drop 2 := List.take_of_length_le (by rw [List.length_drop]; exact Nat.le_refl _)
  rw [e] at h1 h2
  have hh : l.headD 0 = x := by
    cases l with
    | nil => simp at h3
    | cons a l => simpa using hx
  rw [fnum_ref, hh, ← h1]
  by_cases hf : fname x N = l
  · rw [if_pos ⟨h3, h11, h2, hf⟩, if_pos hf]
  · rw [if_neg (fun e => hf e.2.2.2), if_neg hf]
set_option maxHeartbeats 4000000 in
set_option maxRecDepth 100000 in
theorem refNumber_calls (s : ByteArray) (w : World) (hs : s.size ≤ 10000000) :
    Calls Tryz.prog 10 #[.string s] w (NumPost_ w s.data.toList) := by
  have hsz : s.size = s.data.toList.length := Lib.size_eq s
  by_cases h3 : s.size < 3
  · have hR : fnum s.data.toList = none := by rw [fnum_ref, if_neg (by omega)]
    unfold NumPost_
    rw [hR]
    show Calls _ _ _ _ fun e w' => e = .returned (.tuple #[.int .u8 0, .int .i64 0, .bool false]) ∧ Below w.heap.size w w'
    have t1 : (s.size : Int) < 3 := by omega
    clear hR hsz
    go_enter Tryz.func10, Tryz.ntmps10
    go_wp2
    go_ret3
    exact ⟨rfl, Below.refl _ _⟩
  · by_cases h11 : 11 < s.size
    · have hR : fnum s.data.toList = none := by rw [fnum_ref, if_neg (by omega)]
      unfold NumPost_
      rw [hR]
      show Calls _ _ _ _ fun e w' => e = .returned (.tuple #[.int .u8 0, .int .i64 0, .bool false]) ∧ Below w.heap.size w w'
      have t1 : ¬ (s.size : Int) < 3 := by omega
      have t2 : 11 < (s.size : Int) := by omega
      clear hR hsz
      go_enter Tryz.func10, Tryz.ntmps10
      go_wp2
      go_ret3
      exact ⟨rfl, Below.refl _ _⟩
    · have t1 : ¬ (s.size : Int) < 3 := by omega
      have t2 : ¬ 11 < (s.size : Int) := by omega
      have hD0 := Lib.hid (DigR.start (l := s.data.toList) (by omega))
      have hsz' := Lib.hid hsz
      obtain ⟨PP, hPP⟩ : ∃ PP, NumPost_ w s.data.toList = PP := ⟨_, rfl⟩
      rw [hPP]
      have hPP' := Lib.hid hPP
      clear hsz hPP
      go_enter Tryz.func10, Tryz.ntmps10
      go_wp2
      go_loopw [5, 6] (fun n i wr => ∃ k N : Nat, i = .int .i64 k ∧ n = .int .i64 N ∧ DigR s.data.toList k N ∧ w = wr) (fun _ i _ => s.size - (intOf i).toNat)
      case atStart => exact ⟨2, 0, rfl, rfl, hD0.out, rfl⟩
      case round =>
        obtain ⟨k, N, rfl, rfl, hD, rfl⟩ := hrel
        have hN := hD.lt (by have := hsz'.out; omega)
        have hk2 := hD.2.2.1
        have hk : k ≤ s.size := by have := hD.2.2.2; have := hsz'.out; omega
        have hD' := Lib.hid hD
        clear hD
        by_cases hlt : k < s.size
        · obtain ⟨x, hx⟩ : ∃ x, s[k] = x := ⟨_, rfl⟩
          have hxl : s.data.toList[k]? = some x := by
            rw [← hx, List.getElem?_eq_getElem (by have := hsz'.out; omega)]; rfl
          have hxl' := Lib.hid hxl
          clear hxl
          by_cases h48 : (x.toNat : Int) < 48
          · have hb := fnum_bad hxl'.out hk2 (show dig x = false by unfold dig; simp; omega)
            have hb' := Lib.hid hb
            clear hb
            go_wp2
            go_ret3
            rw [← hPP'.out]
            unfold NumPost_
            rw [hb'.out]
            exact ⟨rfl, Below.refl _ _⟩
          · by_cases h57 : 57 < (x.toNat : Int)
            · have hb := fnum_bad hxl'.out hk2 (show dig x = false by unfold dig; simp; omega)
              have hb' := Lib.hid hb
              clear hb
              go_wp2
              go_ret3
              rw [← hPP'.out]
              unfold NumPost_
              rw [hb'.out]
              exact ⟨rfl, Below.refl _ _⟩
            · have hx48 : 48 ≤ (x.toNat : Int) := by omega
              have hx57 : (x.toNat : Int) ≤ 57 := by omega
              have hw1 : IntKind.u8.wrap ((x.toNat : Int) - 48) = (x.toNat : Int) - 48 := by
                exact IntWalk.u8_in _ (by omega)
              go_wp2
              go_roundw
              case rel => exact ⟨k + 1, N * 10 + (x.toNat - 48), by go_num, by congr 1; omega, hD'.out.step hxl'.out (by unfold dig; simp; omega), trivial⟩
              case measure => simp [intOf]; omega
        · obtain rfl : k = s.size := by omega
          obtain ⟨x, hx⟩ : ∃ x, s[0]'(by omega) = x := ⟨_, rfl⟩
          have hxl : s.data.toList[0]? = some x := by
            rw [← hx, List.getElem?_eq_getElem (by have := hsz'.out; omega)]; rfl
          have hF := fnum_end (by rw [← hsz'.out]; exact hD'.out) (by have := hsz'.out; omega) (by have := hsz'.out; omega) hxl
          have hC := Lib.hid (refName_calls x N w)
          have h0 : 0 < s.size := by omega
          rw [Int.toNat_natCast] at hC
          obtain ⟨F, hFe⟩ : ∃ F, (⟨(fname x N).toArray⟩ : ByteArray) = F := ⟨_, rfl⟩
          have hC2 := hC.out
          rw [hFe] at hC2
          have hC3 := Lib.hid hC2
          clear hC hC2 hxl
          by_cases he : fname x N = s.data.toList
          · rw [if_pos he] at hF
            obtain rfl : F = s := by rw [← hFe, he]
            have hF' := Lib.hid hF
            clear hF hFe he
            go_wp2_with (go_at_call 12; ((with_reducible refine hC3.out.mono ?_); rintro e w4 ⟨rfl, hb4⟩; have hb4' := Lib.hid hb4; clear hb4))
            go_ret3
            rw [← hPP'.out]
            unfold NumPost_
            rw [hF'.out]
            exact ⟨rfl, hb4'.out⟩
          · rw [if_neg he] at hF
            have hne : (F.toList == s.toList) = false := by
              rw [beq_eq_false_iff_ne]
              intro h
              rw [Lib.toList_data, Lib.toList_data, ← hFe] at h
              exact he h
            have hF' := Lib.hid hF
            clear hF hFe he
            go_wp2_with (go_at_call 12; ((with_reducible refine hC3.out.mono ?_); rintro e w4 ⟨rfl, hb4⟩; have hb4' := Lib.hid hb4; clear hb4))
            go_ret3
            rw [← hPP'.out]
            unfold NumPost_
            rw [hF'.out]
            exact ⟨rfl, hb4'.out⟩
end Go.Proofs.YtabcdodjkfknlaaGreatDoor
