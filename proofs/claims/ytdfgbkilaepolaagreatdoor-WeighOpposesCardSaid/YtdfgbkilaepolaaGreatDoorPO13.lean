/- Contracts of the Go library on sorted keys of a map, laid at this translation by a program of the kit: maps.Keys, slices.Sorted, slices.Sort; each under the premises that it states. Walks: kinds.Names; are all names known? Walks: are all names known? A statement that draws its order, walked in few orders: what only reads is taken first; of the others one comes, or one of two. Walks: the kind of a condition: what its parts have in common. Walks: the kind of a condition. -/
import Derived.Shelf.SlIter.Nil
import Derived.Shelf.SortM.Plain
import Derived.Shelf.SortM.SortNone
import Derived.Test.YtdfgbkilaepolaaGreatDoorProg
import Derived.Test.YtdfgbkilaepolaaGreatDoorPO12
import Derived.Test.YtdfgbkilaepolaaGreatDoorShelfB
import Derived.Sort.KeysCollected
import Derived.Shelf.AbstractIn
import Derived.Test.YtdfgbkilaepolaaGreatDoorPW03
namespace Go.Proofs
open Go.Shelf
def Tryz.keys45_ren : Go.Shelf.Ren := ⟨fun | 7 => 57 | 10 => 78 | n => n, fun | 23 => 85 | 26 => 9 | 3 => 4 | 28 => 101 | 0 => 0 | 27 => 100 | 33 => 65 | 4 => 4 | n => n, fun | n => n⟩
theorem Tryz.keys45 : Go.Proofs.SlLaysZ.n7 Tryz.prog Tryz.keys45_ren := {
  mixed := by kernel_rfl
  f7 := ⟨Tryz.f57.name, by decide, Tryz.func57.trans (congrArg some (by kernel_rfl))⟩
  f10 := ⟨Tryz.f78.name, by decide, Tryz.func78.trans (congrArg some (by kernel_rfl))⟩
  t0 := Tryz.underlying0
  a0 := Tryz.isAgg0
  z0 := Tryz.sizeOf0
  v0 := Tryz.zeroValue0
  t4 := Tryz.underlying4
  a4 := Tryz.isAgg4
  z4 := Tryz.sizeOf4
  v4 := Tryz.zeroValue4
  t23 := Tryz.underlying85
  a23 := Tryz.isAgg85
  z23 := Tryz.sizeOf85
  v23 := Tryz.zeroValue85
  t26 := Tryz.underlying9
  a26 := Tryz.isAgg9
  z26 := Tryz.sizeOf9
  v26 := Tryz.zeroValue9
  t27 := Tryz.underlying100
  a27 := Tryz.isAgg100
  z27 := Tryz.sizeOf100
  v27 := Tryz.zeroValue100
  t28 := Tryz.underlying101
  a28 := Tryz.isAgg101
  z28 := Tryz.sizeOf101
  v28 := Tryz.zeroValue101
  t33 := Tryz.underlying65
  a33 := Tryz.isAgg65
  z33 := Tryz.sizeOf65
  v33 := Tryz.zeroValue65 }
def Tryz.sorted44_ren : Go.Shelf.Ren := ⟨fun | 6 => 56 | 8 => 76 | 9 => 77 | 11 => 100 | 13 => 102 | 12 => 101 | 23 => 129 | 24 => 130 | 14 => 120 | 15 => 121 | 16 => 122 | 17 => 123 | 18 => 124 | 19 => 125 | 20 => 126 | 21 => 127 | 22 => 128 | 25 => 145 | 26 => 146 | 27 => 147 | 28 => 148 | 29 => 149 | 30 => 82 | 31 => 160 | n => n, fun | 26 => 9 | 28 => 101 | 24 => 25 | 0 => 0 | 3 => 3 | 37 => 106 | 48 => 155 | 50 => 157 | 4 => 4 | 40 => 149 | 39 => 148 | 45 => 74 | 5 => 5 | 9 => 9 | 51 => 165 | 55 => 169 | 57 => 178 | 58 => 179 | 33 => 65 | n => n, fun | n => n⟩
theorem Tryz.sorted44 : Go.Proofs.SlLaysZ.n6 Tryz.prog Tryz.sorted44_ren := {
  mixed := by kernel_rfl
  f6 := ⟨Tryz.f56.name, by decide, Tryz.func56.trans (congrArg some (by kernel_rfl))⟩
  f8 := ⟨Tryz.f76.name, by decide, Tryz.func76.trans (congrArg some (by kernel_rfl))⟩
  f11 := ⟨Tryz.f100.name, by decide, Tryz.func100.trans (congrArg some (by kernel_rfl))⟩
  t0 := Tryz.underlying0
  a0 := Tryz.isAgg0
  z0 := Tryz.sizeOf0
  v0 := Tryz.zeroValue0
  t24 := Tryz.underlying25
  a24 := Tryz.isAgg25
  z24 := Tryz.sizeOf25
  v24 := Tryz.zeroValue25
  t26 := Tryz.underlying9
  a26 := Tryz.isAgg9
  z26 := Tryz.sizeOf9
  v26 := Tryz.zeroValue9
  t28 := Tryz.underlying101
  a28 := Tryz.isAgg101
  z28 := Tryz.sizeOf101
  v28 := Tryz.zeroValue101
  i26 := by kernel_rfl }
def Tryz.sort67_ren : Go.Shelf.Ren := ⟨fun | 6 => 77 | 8 => 102 | 9 => 101 | 19 => 129 | 20 => 130 | 21 => 120 | 22 => 121 | 23 => 122 | 24 => 123 | 25 => 124 | 26 => 125 | 27 => 126 | 28 => 127 | 29 => 128 | 36 => 145 | 31 => 146 | 32 => 147 | 37 => 148 | 38 => 149 | 39 => 82 | 41 => 160 | n => n, fun | 27 => 25 | 29 => 9 | 3 => 3 | 32 => 106 | 26 => 25 | 0 => 0 | 44 => 155 | 46 => 157 | 4 => 4 | 36 => 149 | 35 => 148 | 41 => 74 | 5 => 5 | 9 => 9 | 53 => 165 | 57 => 169 | 63 => 178 | 64 => 179 | n => n, fun | n => n⟩
theorem Tryz.sort67 : Go.Proofs.SlLaysM.n6 Tryz.prog Tryz.sort67_ren := {
  mixed := by kernel_rfl
  f6 := ⟨Tryz.f77.name, by decide, Tryz.func77.trans (congrArg some (by kernel_rfl))⟩
  f8 := Tryz.func102.trans (congrArg some (by kernel_rfl))
  f9 := ⟨Tryz.f101.name, by decide, Tryz.func101.trans (congrArg some (by kernel_rfl))⟩
  f19 := Tryz.func129.trans (congrArg some (by kernel_rfl))
  f20 := Tryz.func130.trans (congrArg some (by kernel_rfl))
  f21 := ⟨Tryz.f120.name, by decide, Tryz.func120.trans (congrArg some (by kernel_rfl))⟩
  f22 := ⟨Tryz.f121.name, by decide, Tryz.func121.trans (congrArg some (by kernel_rfl))⟩
  f23 := ⟨Tryz.f122.name, by decide, Tryz.func122.trans (congrArg some (by kernel_rfl))⟩
  f24 := ⟨Tryz.f123.name, by decide, Tryz.func123.trans (congrArg some (by kernel_rfl))⟩
  f25 := ⟨Tryz.f124.name, by decide, Tryz.func124.trans (congrArg some (by kernel_rfl))⟩
  f26 := ⟨Tryz.f125.name, by decide, Tryz.func125.trans (congrArg some (by kernel_rfl))⟩
  f27 := ⟨Tryz.f126.name, by decide, Tryz.func126.trans (congrArg some (by kernel_rfl))⟩
  f28 := ⟨Tryz.f127.name, by decide, Tryz.func127.trans (congrArg some (by kernel_rfl))⟩
  f29 := ⟨Tryz.f128.name, by decide, Tryz.func128.trans (congrArg some (by kernel_rfl))⟩
  f31 := Tryz.func146.trans (congrArg some (by kernel_rfl))
  f32 := Tryz.func147.trans (congrArg some (by kernel_rfl))
  f36 := ⟨Tryz.f145.name, by decide, Tryz.func145.trans (congrArg some (by kernel_rfl))⟩
  f37 := ⟨Tryz.f148.name, by decide, Tryz.func148.trans (congrArg some (by kernel_rfl))⟩
  f38 := ⟨Tryz.f149.name, by decide, Tryz.func149.trans (congrArg some (by kernel_rfl))⟩
  f39 := ⟨Tryz.f82.name, by decide, Tryz.func82.trans (congrArg some (by kernel_rfl))⟩
  f41 := ⟨Tryz.f160.name, by decide, Tryz.func160.trans (congrArg some (by kernel_rfl))⟩
  t0 := Tryz.underlying0
  a0 := Tryz.isAgg0
  z0 := Tryz.sizeOf0
  v0 := Tryz.zeroValue0
  t3 := Tryz.underlying3
  a3 := Tryz.isAgg3
  z3 := Tryz.sizeOf3
  v3 := Tryz.zeroValue3
  t4 := Tryz.underlying4
  a4 := Tryz.isAgg4
  z4 := Tryz.sizeOf4
  v4 := Tryz.zeroValue4
  t5 := Tryz.underlying5
  a5 := Tryz.isAgg5
  z5 := Tryz.sizeOf5
  v5 := Tryz.zeroValue5
  t9 := Tryz.underlying9
  a9 := Tryz.isAgg9
  z9 := Tryz.sizeOf9
  v9 := Tryz.zeroValue9
  t26 := Tryz.underlying25
  a26 := Tryz.isAgg25
  z26 := Tryz.sizeOf25
  v26 := Tryz.zeroValue25
  t27 := Tryz.underlying25
  a27 := Tryz.isAgg25
  z27 := Tryz.sizeOf25
  v27 := Tryz.zeroValue25
  t29 := Tryz.underlying9
  a29 := Tryz.isAgg9
  z29 := Tryz.sizeOf9
  v29 := Tryz.zeroValue9
  t32 := Tryz.underlying106
  a32 := Tryz.isAgg106
  z32 := Tryz.sizeOf106
  v32 := Tryz.zeroValue106
  t35 := Tryz.underlying148
  a35 := Tryz.isAgg148
  z35 := Tryz.sizeOf148
  v35 := Tryz.zeroValue148
  t36 := Tryz.underlying149
  a36 := Tryz.isAgg149
  z36 := Tryz.sizeOf149
  v36 := Tryz.zeroValue149
  t41 := Tryz.underlying74
  a41 := Tryz.isAgg74
  z41 := Tryz.sizeOf74
  v41 := Tryz.zeroValue74
  t44 := Tryz.underlying155
  a44 := Tryz.isAgg155
  z44 := Tryz.sizeOf155
  v44 := Tryz.zeroValue155
  t46 := Tryz.underlying157
  a46 := Tryz.isAgg157
  z46 := Tryz.sizeOf157
  v46 := Tryz.zeroValue157
  t53 := Tryz.underlying165
  a53 := Tryz.isAgg165
  z53 := Tryz.sizeOf165
  v53 := Tryz.zeroValue165
  t57 := Tryz.underlying169
  a57 := Tryz.isAgg169
  z57 := Tryz.sizeOf169
  v57 := Tryz.zeroValue169
  t63 := Tryz.underlying178
  a63 := Tryz.isAgg178
  z63 := Tryz.sizeOf178
  v63 := Tryz.zeroValue178
  t64 := Tryz.underlying179
  a64 := Tryz.isAgg179
  z64 := Tryz.sizeOf179
  v64 := Tryz.zeroValue179 }
end Go.Proofs
namespace Go.Proofs
open Go.RowKit Go.Maps Go.Sort Go.Shelf
theorem Tryz.sorts44 (m : Nat) : AnyZ.SortsIn Tryz.prog Tryz.sorted44_ren Fence.wide m :=
  ⟨fun blk off cap ss W hH hblk hsz => callsIn_wide.2 (AnyM.slices_Sort_string Tryz.sort67 blk off cap ss W hH hblk hsz),
   fun p cap W => callsIn_wide.2 (AnyM.slices_Sort_string_none Tryz.sort67 p cap W)⟩
theorem Tryz.maps_Keys_b (mb : Option Nat) (W : World) : CallsIn Fence.wide 5 Tryz.prog 57 #[.map mb] W fun e w' => e = .returned (.func (.func 78) #[] #[.pointer (some ⟨W.heap.size, 0, none⟩)]) ∧ w' = W.alloc (.cells #[.map mb] 85) :=
  AnyZ.keys_in Tryz.keys45 Fence.wide 5 trivial rfl mb W
set_option maxHeartbeats 1000000 in
theorem Tryz.sorted_keys_b {H : Type} (b nn : Nat) (D0 : DataW H) (R : Value → Option (DataW H × List MemPlace)) (w : World) (hown : w.ownsMap Tryz.prog 9 R b nn D0) (hmax : Maps.size D0 ≤ maxLen) (hbytes : Maps.size D0 * 16 ≤ 140737488355328) :
    CallsIn Fence.wide 5 Tryz.prog 56 #[.func (.func 78) #[] #[.pointer (some ⟨w.heap.size, 0, none⟩)]] (w.alloc (.cells #[.map (some b)] 85)) fun e w' => ∃ (v : Value) (ss : List (List UInt8)), e = .returned v ∧ ss.Perm (strKeys D0) ∧
      w'.ownsRow (w.alloc (.cells #[.map (some b)] 85)).heap.size 9 1 v ss.length ((ss.mergeSort (fun x y => decide (x ≤ y))).map encStr) ∧ (v = .slice none 0 0 ↔ ss = []) ∧ Below (w.alloc (.cells #[.map (some b)] 85)).heap.size (w.alloc (.cells #[.map (some b)] 85)) w' := by
  have hbl := hown.lt
  have hseq : SeqGives Fence.wide 2 Tryz.prog 78 #[.pointer (some ⟨w.heap.size, 0, none⟩)] encStr (fun ss => ss.Perm (strKeys D0)) (Maps.size D0) (w.alloc (.cells #[.map (some b)] 85)) :=
    AnyZ.keys_gives (ρ := Tryz.keys45_ren) { Tryz.keys45 with } Fence.wide _ trivial rfl (by omega) w.heap.size b nn D0 _ (by simp) (by simp) (by
      obtain ⟨es, clock, hb, Ft, hs, hD⟩ := hown
      exact ⟨es, clock, (Below.heap_alloc _ _ b hbl).trans hb, Ft, hs, hD⟩)
  exact AnyZ.sorted_in Tryz.sorted44 Fence.wide 5 trivial trivial trivial trivial rfl (by omega) (Tryz.sorts44 _) (enters_of Tryz.func77 (by kernel_rfl) rfl) 78 #[.pointer (some ⟨w.heap.size, 0, none⟩)] trivial (enters_of Tryz.func78 (by kernel_rfl) rfl) _ _ hmax hbytes _ hseq
end Go.Proofs
namespace Go.Proofs.YtdfgbkilaepolaaGreatDoor
open Go.RowKit Go.Maps Go.Sort Go.Shelf
/-- the keys that are collected are the names -/
theorem keys_mem {w : World} {b n : Nat} {D : DataW Value} {l : List (List UInt8)} (h1 : w.ownsMap Tryz.prog 9 rawR b n D)
    (h2 : ∀ kv kl, keyOf Tryz.prog 9 kv = some kl → Maps.has D kl = (mapf (l.map fun s => (strV s, Value.bool true)) kv).isSome ∧ ∀ v z, mapf (l.map fun s => (strV s, Value.bool true)) kv = some v → D.atKey kl z = .held v)
    (hl : ∀ s ∈ l, s.length ≤ maxLen) (x : List UInt8) : x ∈ strKeys D ↔ x ∈ l := by
  obtain ⟨es, hD, hpw, _⟩ := h1.entries strKeyed
  obtain ⟨es', hD', hko⟩ := h1.keysOf
  obtain rfl : es = es' := by rw [hD] at hD'; simpa using hD'
  have hle := strKeys_le h1 Tryz.underlying9
  have hk : ∀ p ∈ es, ∃ x, p.1 = .string x := fun p hp => by obtain ⟨v, hv⟩ := hko p hp; obtain ⟨x, _, hx, _⟩ := Maps.keyOf_str Tryz.underlying9 hv; exact ⟨x, hx⟩
  subst hD
  have hmem : ∀ x, x ∈ strKeys (.map es) ↔ Maps.has (.map es) (.string x) = true := by
    intro x
    rw [has_eq, List.any_eq_true]
    show x ∈ (es.map fun p => strOf p.1) ↔ _
    rw [List.mem_map]
    constructor
    · rintro ⟨p, hp', rfl⟩
      obtain ⟨a, ha⟩ := hk p hp'
      exact ⟨p, hp', by rw [ha]; simp [Lit.sameKey, strOf]⟩
    · rintro ⟨p, hp', hs⟩
      obtain ⟨a, ha⟩ := hk p hp'
      rw [ha] at hs
      exact ⟨p, hp', by rw [ha]; simpa [Lit.sameKey, strOf] using hs⟩
  have hkey : ∀ x : List UInt8, x.length ≤ maxLen → (Maps.has (.map es) (.string x) = true ↔ x ∈ l) := by
    intro x hx
    have hk1 : keyOf Tryz.prog 9 (strV x) = some (.string x) := by
      have := strKey (s := ⟨x.toArray⟩) (by rw [Lib.size_eq]; exact hx)
      exact this
    rw [(h2 _ _ hk1).1, mapf_is]
    constructor
    · rintro ⟨y, hy, e⟩
      obtain ⟨s, hs, rfl⟩ := List.mem_map.1 hy
      have e2 : strV s = strV x := e
      unfold strV at e2
      injection e2 with e2
      injection e2 with e2
      have e3 : s = x := by have := congrArg Array.toList e2; simpa using this
      rw [← e3]; exact hs
    · intro hx
      exact ⟨_, List.mem_map.2 ⟨x, hx, rfl⟩, rfl⟩
  constructor
  · intro h
    exact (hkey x (hle x h)).1 ((hmem x).1 h)
  · intro h
    exact (hmem x).2 ((hkey x (hl x h)).2 h)
theorem keys_calls (mb : Option Nat) (w : World) : Calls Tryz.prog 57 #[.map mb] w fun e w' => e = .returned (.func (.func 78) #[] #[.pointer (some ⟨w.heap.size, 0, none⟩)]) ∧ w' = w.alloc (.cells #[.map mb] 85) :=
  (callsIn_wide (n := 5)).1 (Tryz.maps_Keys_b mb w)
theorem sorted_calls {w : World} {b : Nat} {l : List (List UInt8)} (h : NmAt w b l) (hl : l.length ≤ 1000000) (hs : ∀ s ∈ l, s.length ≤ maxLen) :
    Calls Tryz.prog 56 #[.func (.func 78) #[] #[.pointer (some ⟨w.heap.size, 0, none⟩)]] (w.alloc (.cells #[.map (some b)] 85)) fun e w' => ∃ (v : Value) (ns : List (List UInt8)), e = .returned v ∧ (∀ x, x ∈ ns ↔ x ∈ l) ∧ w'.ownsRow w.heap.size 9 1 v ns.length (ns.map encStr) ∧ Below w.heap.size w w' := by
  obtain ⟨n, ⟨D, h1, h0, h2, h3⟩, hn⟩ := h
  have hsz := h1.size_le
  refine ((callsIn_wide (n := 5)).1 (Tryz.sorted_keys_b b n D rawR w h1 (by unfold maxLen; omega) (by omega))).mono ?_
  rintro e w' ⟨v, ss, rfl, hS, hrow, hnil, hb⟩
  have hp := List.mergeSort_perm ss (fun x y => decide (x ≤ y))
  refine ⟨v, ss.mergeSort (fun x y => decide (x ≤ y)), rfl, fun x => ?_, ?_, ((Below.refl _ w).alloc (Nat.le_refl _) _).trans (hb.mono (by simp))⟩
  · rw [hp.mem_iff, hS.mem_iff]; exact keys_mem h1 h2 hs x
  · rw [hp.length_eq]; exact ownsRow_base_a hrow (by simp)
set_option maxHeartbeats 4000000 in
set_option maxRecDepth 100000 in
theorem names_calls (r : CT) (hs : r.slim) (hz : r.size ≤ 1000000) (hns : ∀ s ∈ namesC r, s.length ≤ maxLen) (cs : List Value) (w : World) (hR : CV w cs r) :
    Calls Tryz.prog 29 #[.agg cs.toArray] w fun e w' => ∃ (v : Value) (ns : List (List UInt8)), e = .returned v ∧ (∀ x, x ∈ ns ↔ x ∈ namesC r) ∧ w'.ownsRow w.heap.size 9 1 v ns.length (ns.map encStr) ∧ Below w.heap.size w w' := by
  have hlen := names_len r
  obtain ⟨k, m, a, p, c, ds, ecs, hq, hrow, hdl, hp⟩ := hR.form
  rw [ecs] at hR ⊢
  clear hq hrow hdl hp ecs
  have b0 := Blk.new w 28 #[.int .i64 k, .int .i64 m, .string a, .slice p r.parts.length c]
  have B0 := (Below.refl w.heap.size w).alloc (Nat.le_refl _) (.cells #[.int .i64 k, .int .i64 m, .string a, .slice p r.parts.length c] 28)
  obtain ⟨w0, e0⟩ : ∃ w0, w.alloc (.cells #[.int .i64 k, .int .i64 m, .string a, .slice p r.parts.length c] 28) = w0 := ⟨_, rfl⟩
  have z0 : w0.heap.size = w.heap.size + 1 := by rw [← e0]; simp
  rw [e0] at b0 B0
  have R0 := hR.later B0
  have N1 := NmAt.made w0
  have B1 := (Below.refl w0.heap.size w0).alloc (Nat.le_refl _) (.map #[] 0)
  have b1 := b0.alloc (.map #[] 0)
  obtain ⟨w1, e1⟩ : ∃ w1, w0.alloc (.map #[] 0) = w1 := ⟨_, rfl⟩
  have z1 : w1.heap.size = w0.heap.size + 1 := by rw [← e1]; simp
  rw [e1] at N1 B1 b1
  have R1 := R0.later B1
  obtain ⟨mb, hmb⟩ : ∃ mb, w0.heap.size = mb := ⟨_, rfl⟩
  rw [hmb] at N1
  have g2 := Blk.new w1 85 #[.map (some mb)]
  have b2 := b1.alloc (.cells #[.map (some mb)] 85)
  have B2 := (Below.refl w1.heap.size w1).alloc (Nat.le_refl _) (.cells #[.map (some mb)] 85)
  obtain ⟨w2, e2⟩ : ∃ w2, w1.alloc (.cells #[.map (some mb)] 85) = w2 := ⟨_, rfl⟩
  have z2 : w2.heap.size = w1.heap.size + 1 := by rw [← e2]; simp
  rw [e2] at g2 b2 B2
  have R2 := R1.later B2
  have N2 := N1.later B2
  have P := Lib.hid (walk_calls w1.heap.size mb r hs _ [] w2 R2 g2 N2 (by simp; omega))
  have c2 := g2.cell
  have d2 := b2.cell
  have hB2 := Lib.hid (B0.trans ((B1.mono (by omega)).trans (B2.mono (by omega))))
  have hmm := @run_makeMap Tryz.prog
  have g2' := Lib.hid g2
  have hmbne : w1.heap.size ≠ mb := by omega
  have hmbge : w.heap.size ≤ mb := by omega
  clear R0 R1 R2 N1 N2 b0 b1 b2 B0 B1 B2 g2 hR hs z0 z1 z2
  go_enter Tryz.func29, Tryz.ntmps29
  go_wp2_with fail
  refine P.out.mono ?_
  rintro e w3 ⟨rfl, hN3, hk3⟩
  rw [List.nil_append] at hN3
  have g3 := g2'.out.keeps hk3 hmbne
  have c3 := g3.cell
  have hB3 := Lib.hid (Keeps.below_step hB2.out hB2.out.size hk3 (fun j e => by rw [e]; exact hmbge))
  have z3 := hk3.size
  have K := Lib.hid (keys_calls (some mb) w3)
  have S := Lib.hid (sorted_calls hN3 (by omega) hns)
  clear hk3 hN3 g3 P g2'
  go_wp2_with fail
  refine K.out.mono ?_
  rintro e w4 ⟨rfl, rfl⟩
  go_wp2_with fail
  refine S.out.mono ?_
  rintro e w5 ⟨v, ns, rfl, hm, hrow, hb⟩
  have hrow' := Lib.hid hrow
  have hb' := Lib.hid hb
  clear hrow hb
  go_wp2_with fail
  go_ret
  exact ⟨v, ns, rfl, hm, ownsRow_base_a hrow'.out hB3.out.size, hB3.out.trans (hb'.out.mono (by have := hB3.out.size; omega))⟩
end Go.Proofs.YtdfgbkilaepolaaGreatDoor
namespace Go.Proofs.YtdfgbkilaepolaaGreatDoor
open Go.RowKit Go.Maps Go.Sort Go.Shelf
abbrev NameS := { s : ByteArray // s.size ≤ maxLen }
instance : Inhabited NameS := ⟨⟨⟨#[]⟩, by decide⟩⟩
def encN (s : NameS) : Value := .string s.1
/-- the map of names and kinds -/
noncomputable abbrev kindf (ps : List Par) : Value → Option Value := mapf (ps.map fun x => (.string x.1, .int .i64 x.2))
/-- b is the book of these parameters; its place lies at g -/
structure KbAt (w : World) (g b : Nat) (ps : List Par) : Prop where
  blk : Blk w g 71 #[.map (some b)]
  map : ∃ n, MapAt Tryz.prog 9 w b n (kindf ps)
theorem KbAt.later {w w' : World} {g b : Nat} {ps : List Par} (h : KbAt w g b ps) (hb : Below w.heap.size w w') : KbAt w' g b ps := ⟨h.blk.below hb h.blk.lt, by obtain ⟨n, h⟩ := h.map; exact ⟨n, h.later hb⟩⟩
theorem kind_look {w : World} {b n : Nat} {ps : List Par} (hM : MapAt Tryz.prog 9 w b n (kindf ps)) (hnd : (ps.map (·.1)).Nodup) {s : ByteArray} (hs : s.size ≤ maxLen) :
    (Instr.lookup 71 (.map (some b)) (.string s) false).run Tryz.prog w = .ok (.int .i64 (kindOf ps s.data.toList)) w := by
  rw [hM.look strKeyed Tryz.underlying71 (zeroInt w) (strKey hs), mapf_kind hnd]
set_option maxHeartbeats 2000000 in
theorem kind1_pred (g b : Nat) (ps : List Par) (hnd : (ps.map (·.1)).Nodup) (w : World) (h : KbAt w g b ps) : PredAt Tryz.prog 30 #[.pointer (some ⟨g, 0, none⟩)] encN (fun s => decide (kindOf ps s.1.data.toList = 0)) w := fun W x hb => by
  show Calls Tryz.prog 30 #[.string x.1, .pointer (some ⟨g, 0, none⟩)] W fun e w' => e = .returned (.bool (decide (kindOf ps x.1.data.toList = 0))) ∧ ∃ q, w' = W.drewN q
  have hW := h.later hb
  obtain ⟨n, hM⟩ := hW.map
  have hl := kind_look hM hnd x.2
  have hc := hW.blk.cell
  have ht : (kindOf ps x.1.data.toList == 0) = decide (kindOf ps x.1.data.toList = 0) := rfl
  generalize kindOf ps x.1.data.toList = k at *
  clear hM hW h hb
  go_enter Tryz.func30, Tryz.ntmps30
  go_wp2_with fail
  go_ret
  exact ⟨by rw [← ht]; rfl, 0, rfl⟩
theorem names_sub : ∀ ns : List (List UInt8), (∀ x ∈ ns, x.length ≤ maxLen) → ∃ zs : List NameS, zs.map (fun z => z.1.data.toList) = ns
  | [], _ => ⟨[], rfl⟩
  | x :: ns, h => by
    obtain ⟨zs, hz⟩ := names_sub ns fun y hy => h y (List.mem_cons_of_mem _ hy)
    exact ⟨⟨⟨x.toArray⟩, by rw [Lib.size_eq]; exact h x List.mem_cons_self⟩ :: zs, by rw [List.map_cons, hz]⟩
theorem known_calls (ps : List Par) (hnd : (ps.map (·.1)).Nodup) (g b B : Nat) (ns : List (List UInt8)) (v : Value) (w : World) (hrow : w.ownsRow B 9 1 v ns.length (ns.map encStr)) (hns : ∀ x ∈ ns, x.length ≤ maxLen) (hlen : ns.length ≤ maxLen) (h : KbAt w g b ps) :
    Calls Tryz.prog 28 #[v, .func (.func 30) #[] #[.pointer (some ⟨g, 0, none⟩)]] w fun e w' => e = .returned (.bool (ns.any fun s => decide (kindOf ps s = 0))) ∧ ∃ q, w' = w.drewN q := by
  have eg : ∀ args w, (callFunc 30 args).run Tryz.prog w = .ok (.enter 30 args) w := enters_of Tryz.func30 (by kernel_rfl) rfl
  obtain ⟨zs, hz⟩ := names_sub ns hns
  have hzl : zs.length = ns.length := by rw [← hz, List.length_map]
  have hany : (ns.any fun s => decide (kindOf ps s = 0)) = zs.any (fun s => decide (kindOf ps s.1.data.toList = 0)) := by
    rw [← hz, List.any_map]; rfl
  rw [hany]
  have hr := RowAt.of_own hrow
  by_cases h0 : ns.length = 0
  · obtain ⟨p, c, rfl⟩ := hr.slice
    rw [h0]
    have : zs = [] := List.eq_nil_of_length_eq_zero (by omega)
    subst this
    refine (Tryz.slices_ContainsFunc_empty (α := NameS) p c _ w).mono ?_
    rintro e w' ⟨rfl, rfl⟩
    exact ⟨rfl, 0, rfl⟩
  · obtain ⟨g2, c, rfl, _, _, hc⟩ := hr.cell (by omega)
    have hcon := Tryz.slices_ContainsFunc encN (fun s => decide (kindOf ps s.1.data.toList = 0)) 30 #[.pointer (some ⟨g, 0, none⟩)] eg g2 0 ns.length c zs w (kind1_pred g b ps hnd w h) (by omega) (by unfold maxLen at hlen; omega) (fun j hj => by
      rw [Nat.zero_add]
      refine hc j _ ?_
      have hjn : j < ns.length := by omega
      rw [List.getElem?_map, List.getElem?_eq_getElem hjn]
      have e1 : zs[j]! = zs[j] := getElem!_pos zs j hj
      rw [e1]
      have e2 : ns[j] = zs[j].1.data.toList := by
        have : ns[j]? = some zs[j].1.data.toList := by rw [← hz, List.getElem?_map, List.getElem?_eq_getElem hj]; rfl
        rw [List.getElem?_eq_getElem hjn] at this
        exact Option.some.inj this
      rw [e2]
      show some (encStr zs[j].1.data.toList) = some (Value.string zs[j].1)
      unfold encStr; rw [Array.toArray_toList])
    rw [List.take_of_length_le (by omega)] at hcon
    exact hcon
end Go.Proofs.YtdfgbkilaepolaaGreatDoor
namespace Go.Proofs.YtdfgbkilaepolaaGreatDoor
open Go.RowKit
/-- a way through: the end; what is taken first; what comes because nothing else can; one of two -/
inductive Way where
  | done
  | take (i : Nat) (r : Way)
  | go (j : Nat) (r : Way)
  | both (j : Nat) (r : Way) (k : Nat) (s : Way)
def Way.len : Way → Nat
  | .done => 0
  | .take _ r => r.len + 1
  | .go _ r => r.len + 1
  | .both _ r _ s => max r.len s.len + 1
section
variable {P : Program} {ops : Array Oper} {Q : Exit → Act → World → Prop} {md : Region.Mode} {S : World → Prop} {E : Nat → Bool}
def okW (md : Region.Mode) (ops : Array Oper) (Es : List Nat) : Way → Array Bool → Bool
  | .done, listed => (Region.ready md ops listed).isEmpty
  | .take i r, listed => (Region.ready md ops listed).contains i && Region.free md ops listed i && !Es.contains i && Es.all (fun j => (ops[j]?).all fun oj => waitsFor md oj i && !listed.getD j true) && okW md ops Es r (listed.setIfInBounds i true)
  | .go j r, listed => (Region.ready md ops listed == [j]) && okW md ops Es r (listed.setIfInBounds j true)
  | .both j r k s, listed => (Region.ready md ops listed == [j, k]) && okW md ops Es r (listed.setIfInBounds j true) && okW md ops Es s (listed.setIfInBounds k true)
def wpW (P : Program) (ops : Array Oper) (Q : Exit → Act → World → Prop) (S : World → Prop) (Es : List Nat) : Way → Act → World → Prop
  | .done, a, w => Q .normal a w
  | .take i r, a, w => ∃ oi v, ops[i]? = some oi ∧ YieldsIf P ops S oi v a ∧ wpW P ops Q S Es r (a.put oi.dst v) w
  | .go j r, a, w => wpOp P ops Q j (fun a' w' => (Es.contains j = false → S w') ∧ wpW P ops Q S Es r a' w') a w
  | .both j r k s, a, w => wpOp P ops Q j (fun a' w' => (Es.contains j = false → S w') ∧ wpW P ops Q S Es r a' w') a w ∧ wpOp P ops Q k (fun a' w' => (Es.contains k = false → S w') ∧ wpW P ops Q S Es s a' w') a w
theorem wpW_take {Es : List Nat} {i : Nat} {r : Way} {d : Option Tmp} {op : Op} {ty : TypeId} {pos : String} {af : Array Edge} {g : Option (Nat × Bool)} {v : Value} {a : Act} {w : World} (hi : ops[i]? = some ⟨d, op, ty, pos, af, g⟩) (hy : YieldsIf P ops S ⟨d, op, ty, pos, af, g⟩ v a) (h : wpW P ops Q S Es r (a.put d v) w) : wpW P ops Q S Es (.take i r) a w := ⟨_, v, hi, hy, h⟩
theorem wpW_go {Es : List Nat} {j : Nat} {r : Way} {d : Option Tmp} {op : Op} {ty : TypeId} {pos : String} {af : Array Edge} {g : Option (Nat × Bool)} {a : Act} {w : World} (hj : ops[j]? = some ⟨d, op, ty, pos, af, g⟩) (h : wpList P ops (onNormal (fun a' w' => (Es.contains j = false → S w') ∧ wpW P ops Q S Es r a' w') Q) [⟨d, op, ty, pos, af, g⟩] a w) : wpW P ops Q S Es (.go j r) a w := wpOp_one hj h
theorem wpW_both {Es : List Nat} {j k : Nat} {r s : Way} {d : Option Tmp} {op : Op} {ty : TypeId} {pos : String} {af : Array Edge} {g : Option (Nat × Bool)} {d' : Option Tmp} {op' : Op} {ty' : TypeId} {pos' : String} {af' : Array Edge} {g' : Option (Nat × Bool)} {a : Act} {w : World} (hj : ops[j]? = some ⟨d, op, ty, pos, af, g⟩) (hk : ops[k]? = some ⟨d', op', ty', pos', af', g'⟩)
    (h : wpList P ops (onNormal (fun a' w' => (Es.contains j = false → S w') ∧ wpW P ops Q S Es r a' w') Q) [⟨d, op, ty, pos, af, g⟩] a w) (h' : wpList P ops (onNormal (fun a' w' => (Es.contains k = false → S w') ∧ wpW P ops Q S Es s a' w') Q) [⟨d', op', ty', pos', af', g'⟩] a w) : wpW P ops Q S Es (.both j r k s) a w := ⟨wpOp_one hj h, wpOp_one hk h'⟩
theorem wpW_done {Es : List Nat} {a : Act} {w : World} (h : Q .normal a w) : wpW P ops Q S Es .done a w := h
theorem ready_un {Es : List Nat} {listed : Array Bool} {i : Nat} {w : World} (hir : i ∈ Region.ready md ops listed) (h3 : Es.contains i = false → S w) (hno : ∀ j ∈ Es, (ops[j]?).isSome = true → (listed.setIfInBounds i true).getD j true = false) : S w := by
  cases hc : Es.contains i with
  | false => exact h3 hc
  | true =>
    have hiE : i ∈ Es := by simpa using hc
    obtain ⟨hjun, oj, hoj, _⟩ := mem_ready.1 hir
    have := hno i hiE (by rw [hoj]; rfl)
    have hlt : i < listed.size := by
      rcases Nat.lt_or_ge i listed.size with h' | h'
      · exact h'
      · rw [Array.getD, dif_neg (by omega)] at hjun; cases hjun
    rw [Array.getD, dif_pos (by simpa using hlt)] at this
    simp at this
theorem wpAnyX_of_w {Es : List Nat} (hsel : Region.noSelect ops = true) (hQ : ∀ c a t v w, Q (.panic c) (a.put (some t) v) w → Q (.panic c) a w) : ∀ (sc : Way) (fuel : Nat) (listed : Array Bool) (a : Act) (w : World),
    okW md ops Es sc listed = true → sc.len ≤ fuel → ((∀ j ∈ Es, (ops[j]?).isSome = true → listed.getD j true = false) → S w) → wpW P ops Q S Es sc a w → wpAnyX P md ops Q S (fun j => Es.contains j) fuel listed a w
  | .done, fuel, listed, a, w, hok, _, _, h => by
    have hr : Region.ready md ops listed = [] := List.isEmpty_iff.1 hok
    cases fuel with
    | zero => exact ⟨hr, h⟩
    | succ f => exact ⟨fun _ => h, by rw [hr]; simp⟩
  | .take i r, 0, listed, a, w, _, hf, _, _ => by simp [Way.len] at hf
  | .go i r, 0, listed, a, w, _, hf, _, _ => by simp [Way.len] at hf
  | .both i r k s, 0, listed, a, w, _, hf, _, _ => by simp [Way.len] at hf
  | .take i r, fuel + 1, listed, a, w, hok, hf, hS, h => by
    unfold okW at hok
    simp only [Bool.and_eq_true, Bool.not_eq_true', List.all_eq_true] at hok
    obtain ⟨⟨⟨⟨h1, h2⟩, h3⟩, h4⟩, h5⟩ := hok
    obtain ⟨oi, v, hi, hy, h⟩ := h
    have hun : ∀ j ∈ Es, (ops[j]?).isSome = true → listed.getD j true = false := by
      intro j hj hs
      obtain ⟨oj, ho⟩ := Option.isSome_iff_exists.1 hs
      have := h4 j hj
      rw [ho] at this
      simp only [Option.all_some, Bool.and_eq_true, Bool.not_eq_true'] at this
      exact this.2
    have hSw := hS hun
    refine wpAnyX_first hi (Region.noSelect_spec hsel) (fun c a w hh => by
      cases hd : oi.dst with
      | none => rw [hd] at hh; exact hh
      | some t => rw [hd] at hh; exact hQ c a t _ w hh) (fun j oj ho hj => ?_) h3 fuel listed a w (Region.free_spec hi h2) (by simpa using h1) hy hSw ?_
    · have := h4 j (by simpa using hj)
      rw [ho] at this
      simp only [Option.all_some, Bool.and_eq_true] at this
      exact this.1
    · exact wpAnyX_of_w hsel hQ r fuel _ _ _ h5 (by simp only [Way.len] at hf; omega) (fun _ => hSw) h
  | .go j r, fuel + 1, listed, a, w, hok, hf, _, h => by
    unfold okW at hok
    simp only [Bool.and_eq_true, beq_iff_eq] at hok
    obtain ⟨h1, h2⟩ := hok
    refine ⟨fun h0 => (by rw [h0] at h1; cases h1), fun i hi => ?_⟩
    have hir := hi
    rw [h1] at hi
    obtain rfl : i = j := by simpa using hi
    exact wpOp_mono (fun a' w' h3 => ⟨h3.1, wpAnyX_of_w hsel hQ r fuel _ a' w' h2 (by simp only [Way.len] at hf; omega) (fun hno => ready_un hir h3.1 hno) h3.2⟩) h
  | .both j r k s, fuel + 1, listed, a, w, hok, hf, _, h => by
    unfold okW at hok
    simp only [Bool.and_eq_true, beq_iff_eq] at hok
    obtain ⟨⟨h1, h2⟩, h2'⟩ := hok
    obtain ⟨h, h'⟩ := h
    refine ⟨fun h0 => (by rw [h0] at h1; cases h1), fun i hi => ?_⟩
    have hir := hi
    rw [h1] at hi
    rcases List.mem_cons.1 hi with e | e
    · subst e
      exact wpOp_mono (fun a' w' h3 => ⟨h3.1, wpAnyX_of_w hsel hQ r fuel _ a' w' h2 (by simp only [Way.len] at hf; omega) (fun hno => ready_un hir h3.1 hno) h3.2⟩) h
    · obtain rfl : i = k := by simpa using e
      exact wpOp_mono (fun a' w' h3 => ⟨h3.1, wpAnyX_of_w hsel hQ s fuel _ a' w' h2' (by simp only [Way.len] at hf; omega) (fun hno => ready_un hir h3.1 hno) h3.2⟩) h'
theorem wp_region_w {id : Nat} {a : Act} {w : World} (S : World → Prop) (Es : List Nat) (sc : Way) (hm : P.follows .mixedOrders = true) (hsel : Region.noSelect ops = true) (hok : okW .any ops Es sc (Array.replicate ops.size false) = true) (hlen : sc.len = ops.size)
    (hQ : ∀ c a t v w, Q (.panic c) (a.put (some t) v) w → Q (.panic c) a w) (hS : S w.drew) (h : wpW P ops Q S Es sc a w.drew) : (Code.region id ops true).wp P Q a w :=
  wp_region_any hm (wpAny_of_x _ _ _ _ (wpAnyX_of_w hsel hQ sc _ _ _ _ hok (Nat.le_of_eq hlen) (fun _ => hS) h))
end
end Go.Proofs.YtdfgbkilaepolaaGreatDoor
namespace Go.Proofs.YtdfgbkilaepolaaGreatDoor
open Go.RowKit Go.Maps
/-- the walk of a part's kind -/
def KindSaid (pa : List Par) (q : CT) : Prop := ∀ (cs : List Value) (w : World) (b n : Nat), CV w cs q → MapAt Tryz.prog 9 w b n (kindf pa) →
  Calls Tryz.prog 31 #[.map (some b), .agg cs.toArray] w fun e w' => e = .returned (.int .i64 (kindC (kindOf pa) q)) ∧ Below w.heap.size w w'
/-- a value's place -/
theorem Blk.one {w : World} {g : Nat} {t : TypeId} {v : Value} (h : Blk w g t #[v]) : w.cell? ⟨g, 0, none⟩ = some v := h.cell 0
set_option maxHeartbeats 4000000 in
set_option maxRecDepth 100000 in
theorem tog1_calls (pa : List Par) (q : CT) (hq : KindSaid pa q) (cs : List Value) (w : World) (b n gb gk : Nat) (K : Int) (hR : CV w cs q) (hM : MapAt Tryz.prog 9 w b n (kindf pa)) (hb : Blk w gb 71 #[.map (some b)]) (hk : Blk w gk 3 #[.int .i64 K]) :
    Calls Tryz.prog 80 #[.agg cs.toArray, .pointer (some ⟨gb, 0, none⟩), .pointer (some ⟨gk, 0, none⟩)] w fun e w' => e = .returned (.bool (kindC (kindOf pa) q != K)) ∧ Below w.heap.size w w' := by
  obtain ⟨k, m, a, p, c, ds, ecs, -, -, -, -⟩ := hR.form
  rw [ecs] at hR ⊢
  clear ecs
  have b0 := Blk.new w 28 #[.int .i64 k, .int .i64 m, .string a, .slice p q.parts.length c]
  have B0 := (Below.refl w.heap.size w).alloc (Nat.le_refl _) (.cells #[.int .i64 k, .int .i64 m, .string a, .slice p q.parts.length c] 28)
  obtain ⟨w0, e0⟩ : ∃ w0, w.alloc (.cells #[.int .i64 k, .int .i64 m, .string a, .slice p q.parts.length c] 28) = w0 := ⟨_, rfl⟩
  rw [e0] at b0 B0
  have B1 := B0.drew
  have hR1 := hR.later B1
  have hM1 := hM.later B1
  have hb1 := hb.below B1 hb.lt
  have hk1 := hk.below B1 hk.lt
  obtain ⟨Q, hQ⟩ : ∃ Q, kindC (kindOf pa) q = Q := ⟨_, rfl⟩
  have P0 := hq _ w0.drew b n hR1 hM1
  rw [hQ] at P0 ⊢
  have P := Lib.hid P0
  clear P0 hQ
  have hS0 : (∀ i, w0.drew.cell? ⟨w.heap.size, i, none⟩ = (#[.int .i64 k, .int .i64 m, .string a, .slice p q.parts.length c] : Array Value)[i]?) ∧ w0.drew.cell? ⟨gb, 0, none⟩ = some (.map (some b)) ∧ w0.drew.cell? ⟨gk, 0, none⟩ = some (.int .i64 K) := ⟨b0.drew.cell, hb1.one, hk1.one⟩
  have b0' := Lib.hid b0.drew
  have hb1' := Lib.hid hb1
  have hk1' := Lib.hid hk1
  have hB1 := Lib.hid B1
  clear hR hM hb hk hq hR1 hM1 hb1 hk1 b0 B0 B1
  go_enter Tryz.func80, Tryz.ntmps80
  go_wp2_with fail
  refine wp_region_s (fun w' => (∀ i, w'.cell? ⟨w.heap.size, i, none⟩ = (#[.int .i64 k, .int .i64 m, .string a, .slice p q.parts.length c] : Array Value)[i]?) ∧ w'.cell? ⟨gb, 0, none⟩ = some (.map (some b)) ∧ w'.cell? ⟨gk, 0, none⟩ = some (.int .i64 K)) [] [(true, 0), (true, 1), (true, 3), (false, 2), (true, 4), (true, 5)] (by kernel_rfl) (by kernel_rfl) (by kernel_rfl) (by kernel_rfl) (fun _ _ _ _ _ h => h) hS0 ?_
  clear hS0
  refine wpS_take (v := ?_) rfl (.inl ⟨by rfl, fun w' hS => ?_⟩) ?_
  rotate_left
  · (try dsimp only at hS); obtain ⟨s1, s2, s3⟩ := hS; go_simp; try with_reducible rfl
  simp only [Act.put, List.setIfInBounds_toArray, List.set_cons_zero, List.set_cons_succ]
  refine wpS_take (v := ?_) rfl (.inl ⟨by rfl, fun w' hS => ?_⟩) ?_
  rotate_left
  · (try dsimp only at hS); obtain ⟨s1, s2, s3⟩ := hS; go_simp; try with_reducible rfl
  simp only [Act.put, List.setIfInBounds_toArray, List.set_cons_zero, List.set_cons_succ]
  refine wpS_take (v := ?_) rfl (.inl ⟨by rfl, fun w' hS => ?_⟩) ?_
  rotate_left
  · (try dsimp only at hS); obtain ⟨s1, s2, s3⟩ := hS; go_simp; try with_reducible rfl
  simp only [Act.put, List.setIfInBounds_toArray, List.set_cons_zero, List.set_cons_succ]
  refine wpS_go rfl ?_
  go_wp2_with fail
  refine P.out.mono ?_
  rintro e w1 ⟨rfl, hb1⟩
  have hSx : (∀ i, w1.cell? ⟨w.heap.size, i, none⟩ = (#[.int .i64 k, .int .i64 m, .string a, .slice p q.parts.length c] : Array Value)[i]?) ∧ w1.cell? ⟨gb, 0, none⟩ = some (.map (some b)) ∧ w1.cell? ⟨gk, 0, none⟩ = some (.int .i64 K) := ⟨(b0'.out.below hb1 b0'.out.lt).cell, (hb1'.out.below hb1 hb1'.out.lt).one, (hk1'.out.below hb1 hk1'.out.lt).one⟩
  have hB2 := Lib.hid (hB1.out.trans (hb1.mono hB1.out.size))
  clear hb1 P b0' hb1' hk1' hB1
  go_wp2_with fail
  refine ⟨fun _ => hSx, ?_⟩
  clear hSx
  refine wpS_take (v := ?_) rfl (.inl ⟨by rfl, fun w' hS => ?_⟩) ?_
  rotate_left
  · (try dsimp only at hS); obtain ⟨s1, s2, s3⟩ := hS; go_simp; try with_reducible rfl
  simp only [Act.put, List.setIfInBounds_toArray, List.set_cons_zero, List.set_cons_succ]
  refine wpS_take (v := ?_) rfl (.inl ⟨by rfl, fun w' hS => ?_⟩) ?_
  rotate_left
  · (try dsimp only at hS); obtain ⟨s1, s2, s3⟩ := hS; go_simp; try with_reducible rfl
  simp only [Act.put, List.setIfInBounds_toArray, List.set_cons_zero, List.set_cons_succ]
  refine wpS_end ?_
  go_wp2_with fail
  go_ret
  exact ⟨rfl, hB2.out⟩
abbrev anyOther (pa : List Par) (K : Int) (ps : List CT) : Bool := ps.any fun q => kindC (kindOf pa) q != K
set_option maxHeartbeats 4000000 in
set_option maxRecDepth 100000 in
theorem index_calls (pa : List Par) (K : Int) (ps : List CT) (hq : ∀ q ∈ ps, KindSaid pa q) (v : Value) (ds : List Value) (w : World) (b n gb gk : Nat) (hrow : RowV w v ps.length ds) (hp : ∀ (i : Nat) (q : CT), ps[i]? = some q → CV w ((ds.drop (i * 4)).take 4) q) (hM : MapAt Tryz.prog 9 w b n (kindf pa)) (hb : Blk w gb 71 #[.map (some b)]) (hk : Blk w gk 3 #[.int .i64 K]) :
    Calls Tryz.prog 103 #[v, .func (.func 80) #[] #[.pointer (some ⟨gb, 0, none⟩), .pointer (some ⟨gk, 0, none⟩)]] w fun e w' => ∃ r : Int, e = .returned (.int .i64 r) ∧ decide (0 ≤ r) = anyOther pa K ps ∧ Below w.heap.size w w' := by
  obtain ⟨p, c, rfl⟩ := hrow.form
  have hmax := hrow.1
  unfold maxLen at hmax
  have hq' := Lib.hid hq
  have hrow' := Lib.hid hrow
  have hp' := Lib.hid hp
  have hM' := Lib.hid hM
  have hb' := Lib.hid hb
  have hk' := Lib.hid hk
  obtain ⟨N, hN⟩ : ∃ N, ps.length = N := ⟨_, rfl⟩
  rw [hN] at hrow' hmax ⊢
  have hN' := Lib.hid hN
  clear hq hrow hp hM hb hk hN
  go_enter Tryz.func103, Tryz.ntmps103
  go_wp2_with fail
  go_loopw [8] (fun i wr => ∃ (j : Nat), i = .int .i64 j ∧ j ≤ N ∧ Below w.heap.size w wr ∧ anyOther pa K (ps.take j) = false) (fun i _ => N - (intOf i).toNat)
  case atStart => exact ⟨0, rfl, Nat.zero_le _, Below.refl _ _, rfl⟩
  case round =>
    obtain ⟨j, rfl, hj, hB, hno⟩ := hrel
    by_cases hlt : j < N
    · have hjl : j < ps.length := by rw [hN'.out]; exact hlt
      obtain ⟨q, hqq⟩ : ∃ q, ps[j]? = some q := ⟨_, List.getElem?_eq_getElem hjl⟩
      obtain ⟨g4, o, rfl, hc1, hcell⟩ := (hrow'.out.below hB).cell (by omega)
      obtain ⟨kq, mq, aq, pq, cq, Rq, -, lg, x0, x1, x2, x3⟩ := CV.part hcell hqq ((hp'.out j _ hqq).later hB)
      have hqm := List.mem_of_getElem? hqq
      have D := Lib.hid (tog1_calls pa q (hq'.out q hqm) _ wr b n gb gk K Rq (hM'.out.later hB) (hb'.out.below hB hb'.out.lt) (hk'.out.below hB hk'.out.lt))
      have htk : anyOther pa K (ps.take (j + 1)) = (kindC (kindOf pa) q != K) := by
        obtain ⟨e1, e2⟩ := List.getElem?_eq_some_iff.1 hqq
        unfold anyOther at hno ⊢
        rw [List.take_succ_eq_append_getElem e1, e2, List.any_append, hno]; simp
      have hall : (kindC (kindOf pa) q != K) = true → anyOther pa K ps = true := fun h => List.any_eq_true.2 ⟨q, hqm, h⟩
      obtain ⟨t, ht⟩ : ∃ t, (kindC (kindOf pa) q != K) = t := ⟨_, rfl⟩
      have D2 := D.out
      rw [ht] at D2 htk hall
      have D3 := Lib.hid D2
      have hB' := Lib.hid hB
      have htk' := Lib.hid htk
      have hall' := Lib.hid hall
      clear D D2 hB htk hall ht hno hqq hqm hcell Rq hjl
      go_wp2_with fail
      refine D3.out.mono ?_
      rintro e w2 ⟨rfl, hb2⟩
      have hB2 := Lib.hid (hB'.out.trans (hb2.mono hB'.out.size))
      clear hb2 D3 x0 x1 x2 x3
      cases t
      · go_wp2_with fail
        go_roundw
        case rel => exact ⟨j + 1, by go_num, by omega, hB2.out, htk'.out⟩
        case measure => simp [intOf]; omega
      · go_wp2_with fail
        go_ret
        exact ⟨j, rfl, by rw [hall'.out trivial]; simp, hB2.out⟩
    · obtain rfl : j = N := by omega
      have hB' := Lib.hid hB
      have hno' := Lib.hid hno
      clear hB hno
      go_wp2_with fail
      go_ret
      refine ⟨-1, rfl, ?_, hB'.out⟩
      have := hno'.out
      rw [List.take_of_length_le (by rw [hN'.out]; exact Nat.le_refl _)] at this
      rw [this]; rfl
set_option maxHeartbeats 2000000 in
set_option maxRecDepth 100000 in
theorem containsC_calls (pa : List Par) (K : Int) (ps : List CT) (hq : ∀ q ∈ ps, KindSaid pa q) (v : Value) (ds : List Value) (w : World) (b n gb gk : Nat) (hrow : RowV w v ps.length ds) (hp : ∀ (i : Nat) (q : CT), ps[i]? = some q → CV w ((ds.drop (i * 4)).take 4) q) (hM : MapAt Tryz.prog 9 w b n (kindf pa)) (hb : Blk w gb 71 #[.map (some b)]) (hk : Blk w gk 3 #[.int .i64 K]) :
    Calls Tryz.prog 79 #[v, .func (.func 80) #[] #[.pointer (some ⟨gb, 0, none⟩), .pointer (some ⟨gk, 0, none⟩)]] w fun e w' => e = .returned (.bool (anyOther pa K ps)) ∧ Below w.heap.size w w' := by
  have D := Lib.hid (index_calls pa K ps hq v ds w b n gb gk hrow hp hM hb hk)
  obtain ⟨p, c, rfl⟩ := hrow.form
  obtain ⟨t, ht⟩ : ∃ t, anyOther pa K ps = t := ⟨_, rfl⟩
  have D2 := D.out
  rw [ht] at D2 ⊢
  have D3 := Lib.hid D2
  clear hq hrow hp hM hb hk D D2 ht
  go_enter Tryz.func79, Tryz.ntmps79
  go_wp2_with fail
  refine D3.out.mono ?_
  rintro e w2 ⟨r, rfl, hr, hb2⟩
  have hr' := Lib.hid hr
  clear hr
  go_wp2_with fail
  go_ret
  exact ⟨by rw [← hr'.out]; rfl, hb2⟩
end Go.Proofs.YtdfgbkilaepolaaGreatDoor
namespace Go.Proofs.YtdfgbkilaepolaaGreatDoor
open Go.RowKit Go.Maps
theorem togI_eq (pa : List Par) (p0 : CT) (ps : List CT) : togI ((p0 :: ps).map (kindC (kindOf pa))) = if anyOther pa (kindC (kindOf pa) p0) (p0 :: ps) = true then 0 else kindC (kindOf pa) p0 := by
  show (if ((p0 :: ps).map (kindC (kindOf pa))).tail.all (fun j => decide (j = kindC (kindOf pa) p0)) then kindC (kindOf pa) p0 else 0) = _
  have e : anyOther pa (kindC (kindOf pa) p0) (p0 :: ps) = !(((p0 :: ps).map (kindC (kindOf pa))).tail.all (fun j => decide (j = kindC (kindOf pa) p0))) := by
    show ((p0 :: ps).any fun q => kindC (kindOf pa) q != kindC (kindOf pa) p0) = _
    rw [List.any_cons, List.map_cons, List.tail_cons, List.all_map, List.not_all_eq_any_not]
    simp only [bne_self_eq_false, Bool.false_or]
    rfl
  rw [e]
  cases (((p0 :: ps).map (kindC (kindOf pa))).tail.all (fun j => decide (j = kindC (kindOf pa) p0))) <;> rfl
set_option maxHeartbeats 4000000 in
set_option maxRecDepth 100000 in
theorem together_calls (pa : List Par) (p0 : CT) (ps : List CT) (hq : ∀ q ∈ p0 :: ps, KindSaid pa q) (v : Value) (ds : List Value) (w : World) (b n : Nat) (hrow : RowV w v (p0 :: ps).length ds) (hp : ∀ (i : Nat) (q : CT), (p0 :: ps)[i]? = some q → CV w ((ds.drop (i * 4)).take 4) q) (hM : MapAt Tryz.prog 9 w b n (kindf pa)) :
    Calls Tryz.prog 59 #[.map (some b), v] w fun e w' => e = .returned (.int .i64 (togI ((p0 :: ps).map (kindC (kindOf pa))))) ∧ Below w.heap.size w w' := by
  rw [togI_eq]
  have C := Lib.hid (fun (K : Int) (W : World) (gb gk : Nat) (h1 : Below w.heap.size w W) (h2 : Blk W gb 71 #[.map (some b)]) (h3 : Blk W gk 3 #[.int .i64 K]) => containsC_calls pa K (p0 :: ps) hq v ds W b n gb gk (hrow.below h1) (fun i q hi => (hp i q hi).later h1) (hM.later h1) h2 h3)
  have hrow0 := hrow
  obtain ⟨p, c, rfl⟩ := hrow.form
  obtain ⟨g4, o, rfl, hc1, hcell⟩ := hrow0.cell (by simp)
  obtain ⟨kq, mq, aq, pq, cq, Rq, -, lg, x0, x1, x2, x3⟩ := CV.part (i := 0) hcell (show (p0 :: ps)[0]? = some p0 from rfl) (hp 0 p0 rfl)
  rw [Nat.zero_mul, Nat.add_zero] at x0 x1 x2 x3
  obtain ⟨K, hK⟩ : ∃ K, kindC (kindOf pa) p0 = K := ⟨_, rfl⟩
  have hP := hq p0 List.mem_cons_self
  unfold KindSaid at hP
  rw [hK] at hP ⊢
  obtain ⟨R, hR⟩ : ∃ R, (if anyOther pa K (p0 :: ps) = true then 0 else K) = R := ⟨_, rfl⟩
  rw [hR]
  have C2 := Lib.hid (C.out K)
  have hR' := Lib.hid hR
  clear hR C hK
  generalize anyOther pa K (p0 :: ps) = T at *
  have b0 := Blk.new w 71 #[.map (some b)]
  have B0 := (Below.refl w.heap.size w).alloc (Nat.le_refl _) (.cells #[.map (some b)] 71)
  obtain ⟨w0, e0⟩ : ∃ w0, w.alloc (.cells #[.map (some b)] 71) = w0 := ⟨_, rfl⟩
  rw [e0] at b0 B0
  have z0 : w.heap.size < w0.heap.size := by rw [← e0]; simp
  have B1 := B0.drew
  have hSS : ∀ W, Below w.heap.size w W → Blk W w.heap.size 71 #[.map (some b)] → W.cell? ⟨w.heap.size, 0, none⟩ = some (.map (some b)) ∧ W.cell? ⟨g4, o, none⟩ = some (.int .i64 kq) ∧ W.cell? ⟨g4, o + 1, none⟩ = some (.int .i64 mq) ∧ W.cell? ⟨g4, o + 2, none⟩ = some (.string aq) ∧ W.cell? ⟨g4, o + 3, none⟩ = some (.slice pq p0.parts.length cq) := fun W h1 h2 =>
    ⟨h2.one, by rw [h1.cell (p := ⟨g4, o, none⟩) lg]; exact x0, by rw [h1.cell (p := ⟨g4, o + 1, none⟩) lg]; exact x1, by rw [h1.cell (p := ⟨g4, o + 2, none⟩) lg]; exact x2, by rw [h1.cell (p := ⟨g4, o + 3, none⟩) lg]; exact x3⟩
  have hS0 := hSS w0.drew B1 b0.drew
  have hSS' := Lib.hid hSS
  have hP' := Lib.hid (fun (W : World) (h1 : Below w.heap.size w W) => hP _ W b n (Rq.later h1) (hM.later h1))
  have hB1 := Lib.hid B1
  have hb0 := Lib.hid b0.drew
  have hz0 : w.heap.size < w0.drew.heap.size := z0
  have hlen : (0 : Int) < ((p0 :: ps).length : Int) := by simp
  have hlenN : 0 < (p0 :: ps).length := by simp
  generalize (p0 :: ps).length = L at *
  clear x0 x1 x2 x3 hcell Rq hP hp hrow hrow0 hM hq b0 B0 B1 hSS z0
  go_enter Tryz.func59, Tryz.ntmps59
  go_wp2_with fail
  obtain ⟨u, hu⟩ : ∃ u, w0.drew = u := ⟨_, rfl⟩
  refine wp_region_w (fun W => W.cell? ⟨w.heap.size, 0, none⟩ = some (.map (some b)) ∧ W.cell? ⟨g4, o, none⟩ = some (.int .i64 kq) ∧ W.cell? ⟨g4, o + 1, none⟩ = some (.int .i64 mq) ∧ W.cell? ⟨g4, o + 2, none⟩ = some (.string aq) ∧ W.cell? ⟨g4, o + 3, none⟩ = some (.slice pq p0.parts.length cq)) [] (.take 0 (.take 1 (.take 2 (.take 3 (.both 4 (.go 5 (.go 6 .done)) 5 (.go 4 (.go 6 .done))))))) (by kernel_rfl) (by kernel_rfl) (by kernel_rfl) (by kernel_rfl) (fun _ _ _ _ _ h => h) hS0 ?_
  clear hS0
  rw [hu] at hB1 hb0 hz0 ⊢
  repeat
    refine wpW_take (v := ?_) rfl (.inl ⟨by rfl, fun w' hS => ?_⟩) ?_
    rotate_left
    · (try dsimp only at hS); obtain ⟨s0, s1, s2, s3, s4⟩ := hS; go_simp; try with_reducible rfl
    simp only [Act.put, List.setIfInBounds_toArray, List.set_cons_zero, List.set_cons_succ]
  refine wpW_both rfl rfl ?_ ?_
  · go_wp2_with fail
    refine (hP'.out u hB1.out).mono ?_
    rintro e u1 ⟨rfl, bq⟩
    have hb1 := Lib.hid (hb0.out.below bq hb0.out.lt)
    have hB2 := Lib.hid (hB1.out.trans (bq.mono hB1.out.size))
    clear bq
    go_wp2_with fail
    refine ⟨fun _ => hSS'.out _ hB2.out hb1.out, ?_⟩
    refine wpW_go rfl ?_
    go_wp2_with fail
    have gk2 := Blk.new u1 3 #[.int .i64 0]
    have hB3 : Below w.heap.size w (u1.alloc (.cells #[.int .i64 0] 3)) := hB2.out.alloc hB2.out.size _
    have hb3 := hb1.out.alloc (.cells #[.int .i64 0] 3)
    have hbl := hb1.out.lt
    obtain ⟨u2, e2⟩ : ∃ u2, u1.alloc (.cells #[.int .i64 0] 3) = u2 := ⟨_, rfl⟩
    obtain ⟨gk, hgk⟩ : ∃ gk, u1.heap.size = gk := ⟨_, rfl⟩
    rw [e2] at gk2 hB3 hb3 ⊢
    rw [hgk] at gk2 hbl ⊢
    have hgw : w.heap.size ≤ gk := by rw [← hgk]; exact hB2.out.size
    refine ⟨fun _ => hSS'.out _ hB3 hb3, ?_⟩
    have gc := gk2.cell
    have gf := gk2.frozen
    have hne : w.heap.size ≠ gk := by omega
    have gk3 : Blk _ gk 3 #[.int .i64 K] := gk2.set_ 0 (.int .i64 K)
    have hb4 := hb3.far (p := ⟨gk, 0, none⟩) hne (.int .i64 K)
    have hB4 := Lib.hid (Keeps.below_step hB3 hB3.size ((Keeps.refl (fun j => j = gk) u2).setCell (p := ⟨gk, 0, none⟩) (.inl rfl) (.int .i64 K)) (fun j e => by rw [e]; exact hgw))
    have hB3' := Lib.hid hB3
    have hb3' := Lib.hid hb3
    clear gk2 hB3 hb3 e2 hgk
    refine wpW_go rfl ?_
    go_wp2_with fail
    obtain ⟨u3, e3⟩ : ∃ u3, u2.setCell ⟨gk, 0, none⟩ (.int .i64 K) = u3 := ⟨_, rfl⟩
    rw [e3] at gk3 hb4 hB4 ⊢
    refine ⟨fun _ => hSS'.out _ hB4.out hb4, ?_⟩
    refine wpW_done ?_
    have D := Lib.hid (C2.out u3 w.heap.size gk hB4.out hb4 gk3)
    have gk3' := Lib.hid gk3
    clear gc gf hb4 gk3 e3
    go_wp2_with fail
    refine D.out.mono ?_
    rintro e u4 ⟨rfl, hb5⟩
    have gc5 := (gk3'.out.below hb5 gk3'.out.lt).cell
    have hB5 := Lib.hid (hB4.out.trans (hb5.mono hB4.out.size))
    clear hb5 D
    cases T
    · go_wp2_with fail
      go_ret
      exact ⟨by rw [← hR'.out]; rfl, hB5.out⟩
    · go_wp2_with fail
      go_ret
      exact ⟨by rw [← hR'.out]; rfl, hB5.out⟩
  · go_wp2_with fail
    have gk2 := Blk.new u 3 #[.int .i64 0]
    have hB3 : Below w.heap.size w (u.alloc (.cells #[.int .i64 0] 3)) := hB1.out.alloc hB1.out.size _
    have hb3 := hb0.out.alloc (.cells #[.int .i64 0] 3)
    have hbl := hb0.out.lt
    obtain ⟨u2, e2⟩ : ∃ u2, u.alloc (.cells #[.int .i64 0] 3) = u2 := ⟨_, rfl⟩
    obtain ⟨gk, hgk⟩ : ∃ gk, u.heap.size = gk := ⟨_, rfl⟩
    rw [e2] at gk2 hB3 hb3 ⊢
    rw [hgk] at gk2 hbl ⊢
    have hgw : w.heap.size ≤ gk := by rw [← hgk]; exact hB1.out.size
    refine ⟨fun _ => hSS'.out _ hB3 hb3, ?_⟩
    have hP2 := Lib.hid (hP'.out u2 hB3)
    have gk2' := Lib.hid gk2
    have hB3' := Lib.hid hB3
    have hb3' := Lib.hid hb3
    clear gk2 hB3 hb3 e2 hgk
    refine wpW_go rfl ?_
    go_wp2_with fail
    refine hP2.out.mono ?_
    rintro e u3 ⟨rfl, bq⟩
    have hb4 := hb3'.out.below bq hb3'.out.lt
    have gk4 := gk2'.out.below bq gk2'.out.lt
    have hB4 := hB3'.out.trans (bq.mono hB3'.out.size)
    have hSx := hSS'.out _ hB4 hb4
    have gc := gk4.cell
    have gf := gk4.frozen
    have hne : w.heap.size ≠ gk := by omega
    have gk5 : Blk _ gk 3 #[.int .i64 K] := gk4.set_ 0 (.int .i64 K)
    have hb5 := hb4.far (p := ⟨gk, 0, none⟩) hne (.int .i64 K)
    have hB5 := Lib.hid (Keeps.below_step hB4 hB4.size ((Keeps.refl (fun j => j = gk) u3).setCell (p := ⟨gk, 0, none⟩) (.inl rfl) (.int .i64 K)) (fun j e => by rw [e]; exact hgw))
    clear gk4 hB4 bq hP2
    go_wp2_with fail
    refine ⟨fun _ => hSx, ?_⟩
    clear hSx
    refine wpW_go rfl ?_
    go_wp2_with fail
    obtain ⟨u4, e4⟩ : ∃ u4, u3.setCell ⟨gk, 0, none⟩ (.int .i64 K) = u4 := ⟨_, rfl⟩
    rw [e4] at gk5 hb5 hB5 ⊢
    refine ⟨fun _ => hSS'.out _ hB5.out hb5, ?_⟩
    refine wpW_done ?_
    have D := Lib.hid (C2.out u4 w.heap.size gk hB5.out hb5 gk5)
    have gk5' := Lib.hid gk5
    clear gc gf hb5 gk5 e4
    go_wp2_with fail
    refine D.out.mono ?_
    rintro e u5 ⟨rfl, hb6⟩
    have gc6 := (gk5'.out.below hb6 gk5'.out.lt).cell
    have hB6 := Lib.hid (hB5.out.trans (hb6.mono hB5.out.size))
    clear hb6 D
    cases T
    · go_wp2_with fail
      go_ret
      exact ⟨by rw [← hR'.out]; rfl, hB6.out⟩
    · go_wp2_with fail
      go_ret
      exact ⟨by rw [← hR'.out]; rfl, hB6.out⟩
end Go.Proofs.YtdfgbkilaepolaaGreatDoor
