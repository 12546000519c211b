/- Walk: the program's disk: what Crash asks of the bytes that say how much is kept. -/
import Derived.Test.YtgclancneohpbaaDW14
import Derived.Test.YtgclancneohpbaaHold
namespace Go.Proofs.Ytgclancneohpbaa
open Go.RowKit Go.Maps Go.Shelf
/-- the next byte says how much of n is kept -/
def nextN (keep : List UInt8) (n : Nat) : Nat := match keep with
  | [] => 0
  | b :: _ => b.toNat % (n + 1)
theorem nextN_le (keep : List UInt8) (n : Nat) : nextN keep n ≤ n := by
  unfold nextN
  cases keep with
  | nil => exact Nat.zero_le _
  | cons b r => exact Nat.le_of_lt_succ (Nat.mod_lt _ (Nat.succ_pos _))
/-- the bytes that are left, in their own cell -/
def KeptAt (w : World) (K : Nat) (P : Nat → Prop) (keep : List UInt8) : Prop := ∃ v, Blk w K 51 #[v] ∧ Bytes w v keep ∧ ∀ g, v.ownBlock = some g → keep ≠ [] → P g
theorem KeptAt.keeps {S P : Nat → Prop} {w w' : World} {K : Nat} {keep : List UInt8} (h : KeptAt w K P keep) (hk : Keeps S w w') (hK : ¬ S K) (hP : ∀ g, P g → ¬ S g) : KeptAt w' K P keep := by
  obtain ⟨v, h1, h2, h3⟩ := h
  exact ⟨v, h1.keeps hk hK, h2.keepsP hk (fun g hg hn => hP g (h3 g hg hn)), h3⟩
theorem KeptAt.lt {P : Nat → Prop} {w : World} {K : Nat} {keep : List UInt8} (h : KeptAt w K P keep) : K < w.heap.size := by
  obtain ⟨v, h1, _⟩ := h
  exact h1.lt
set_option maxHeartbeats 1000000 in
set_option maxRecDepth 100000 in
theorem next_calls (K : Nat) (P : Nat → Prop) (keep : List UInt8) (n : Nat) (w : World) (h : KeptAt w K P keep) (hP : ¬ P K) (hn : n ≤ 1000000000000) (hl : keep.length ≤ 1000000000000) :
    Calls Try.prog 50 #[.int .i64 n, .pointer (some ⟨K, 0, none⟩)] w fun e w' => e = .returned (.int .i64 (nextN keep n)) ∧ KeptAt w' K P keep.tail ∧ Keeps (fun j => j = K) w w' ∧ w'.heap.size = w.heap.size := by
  obtain ⟨v, h1, h2, h3⟩ := h
  have h0 : KeptAt w K P keep := ⟨v, h1, h2, h3⟩
  have qc := h1.cell
  have qf := h1.frozen
  rcases h2 with (⟨rfl, rfl⟩ | ⟨g, o, c, rfl, hlc, hc⟩) | ⟨a, c, rfl, rfl⟩
  · have h0' := Lib.hid h0
    clear h0
    go_enter Try.func50, Try.ntmps50
    go_wp2
    go_ret
    exact ⟨rfl, h0'.out, Keeps.refl _ _, rfl⟩
  · cases keep with
    | nil =>
      have h0' := Lib.hid h0
      clear h0 hc
      go_enter Try.func50, Try.ntmps50
      go_wp2
      go_ret
      exact ⟨rfl, h0'.out, Keeps.refl _ _, rfl⟩
    | cons b r =>
      have hb := hc 0 b rfl
      have hgK : g ≠ K := fun e => hP (by subst e; exact h3 _ rfl (fun e => by cases e))
      have hnext : nextN (b :: r) n = b.toNat % (n + 1) := rfl
      have hrest : ∀ i x, r[i]? = some x → w.cell? ⟨g, o + 1 + i, none⟩ = some (.int .u8 x.toNat) := fun i x hx => by
        have := hc (i + 1) x (by simpa using hx)
        rw [show o + 1 + i = o + (i + 1) by omega]
        exact this
      have hk : ∀ v, Keeps (fun j => j = K) w (w.setCell ⟨K, 0, none⟩ v) := fun v => Keeps.setCell (S := fun j => j = K) (Keeps.refl _ w) (p := ⟨K, 0, none⟩) (.inl rfl) v
      have hend : KeptAt (w.setCell ⟨K, 0, none⟩ (.slice (some ⟨g, if c = 1 then o else o + 1, none⟩) r.length (c - 1))) K P r := by
        refine ⟨_, h1.set_ 0 _, Bytes.keeps (S := fun j => j = K) ?_ (hk _) (fun g' hg' => by obtain rfl := Option.some.inj hg'; exact hgK), fun g' hg' _ => h3 g' hg' (fun e => by cases e)⟩
        refine .inl (.inr ⟨g, _, _, rfl, by simp at hlc; omega, fun i x hx => ?_⟩)
        by_cases hc1 : c = 1
        · have : r.length = 0 := by simp at hlc; omega
          rw [List.eq_nil_of_length_eq_zero this] at hx
          cases hx
        · rw [if_neg hc1]; exact hrest i x hx
      have hk1 := hk (.slice (some ⟨g, if c = 1 then o else o + 1, none⟩) r.length (c - 1))
      have hsz : (w.setCell ⟨K, 0, none⟩ (.slice (some ⟨g, if c = 1 then o else o + 1, none⟩) r.length (c - 1))).heap.size = w.heap.size := by simp
      have hb0 : (b.toNat : Int) < 256 := by have := b.toNat_lt; omega
      rw [hnext]
      have hlc' : 1 ≤ c := by simp at hlc; omega
      have hcast : ((b.toNat % (n + 1) : Nat) : Int) = (b.toNat : Int) % ((n : Int) + 1) := by rw [Int.natCast_emod]; rfl
      rw [hcast]
      have hlen : (b :: r).length = r.length + 1 := rfl
      rw [hlen] at qc hl
      have hend' := Lib.hid hend
      have hk1' := Lib.hid hk1
      have hsz' := Lib.hid hsz
      have hb' : w.cell? ⟨g, o, none⟩ = some (.int .u8 b.toNat) := hb
      clear h0 h1 h3 hrest hk hend hk1 hsz hc hnext hcast hb hlen
      have hlc2 := Lib.hid hlc
      clear hlc
      by_cases hc1 : c = 1
      · subst hc1
        go_enter Try.func50, Try.ntmps50
        go_wp2
        go_ret
        exact ⟨rfl, hend'.out, hk1'.out, hsz'.out⟩
      · have hne : ¬ (c = 1) := hc1
        simp only [hne, if_false] at hend' hk1' hsz'
        go_enter Try.func50, Try.ntmps50
        go_wp2
        go_ret
        exact ⟨rfl, hend'.out, hk1'.out, hsz'.out⟩
  · have h0' := Lib.hid h0
    clear h0
    go_enter Try.func50, Try.ntmps50
    go_wp2
    go_ret
    exact ⟨rfl, h0'.out, Keeps.refl _ _, rfl⟩
end Go.Proofs.Ytgclancneohpbaa
