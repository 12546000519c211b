/- Walks: the program's disk: may. -/
import Derived.Test.YtgclancneohpbaaDW1
import Derived.Test.YtgclancneohpbaaDW2
import Derived.Test.YtgclancneohpbaaDlib
namespace Go.Proofs.Ytgclancneohpbaa
open Go.RowKit Go.Maps Go.Shelf
abbrev NameS := { s : ByteArray // s.size ≤ maxLen }
instance : Inhabited NameS := ⟨⟨⟨#[]⟩, by decide⟩⟩
def encN (s : NameS) : Value := .string s.1
def badN (s : NameS) : Bool := !dName s.1.data.toList
theorem bad_pred (w : World) : PredAt Try.prog 76 #[] encN badN w := fun W x _ => by
  show Calls Try.prog 76 #[.string x.1] W _
  have h := disName_calls x.1 W x.2
  have e : badN x = !dName x.1.data.toList := rfl
  rw [e]
  generalize dName x.1.data.toList = b at *
  go_enter Try.func76, Try.ntmps76
  go_wp2_with fail
  refine h.mono ?_
  rintro e w' ⟨rfl, rfl⟩
  go_wp2
  go_ret
  exact ⟨rfl, 0, rfl⟩
theorem contains_calls (b n : Nat) (zs : List NameS) (w : World) (hz : zs.length = n) (hn : n ≤ 1000) (hc : ∀ j, j < zs.length → w.cell? ⟨b, 0 + j, none⟩ = some (encN zs[j]!)) :
    Calls Try.prog 75 #[.slice (some ⟨b, 0, none⟩) n n, .func (.func 76) #[] #[]] w fun e w' => e = .returned (.bool (zs.any badN)) ∧ ∃ q, w' = w.drewN q := by
  have eg : ∀ args w, (callFunc 76 args).run Try.prog w = .ok (.enter 76 args) w := enters_of Try.func76 (by kernel_rfl) rfl
  have h := AnyE.slices_ContainsFunc Try.containsF encN badN 76 #[] eg b 0 n n zs w (bad_pred w) (by omega) (by omega) hc
  rw [List.take_of_length_le (by omega)] at h
  exact h
/-- may a disk be asked of names that may be, or not? -/
def Dk.may (k : Dk) (ok : Bool) : Int := if k.down then 6 else if ok then 0 else 2
set_option maxHeartbeats 1000000 in
theorem dmay_calls (k : Dk) (B D b n : Nat) (O : Nat → Prop) (zs : List NameS) (w : World) (hd : Disk w B D O k) (hz : zs.length = n) (hn : n ≤ 1000) (hc : ∀ j, j < zs.length → w.cell? ⟨b, 0 + j, none⟩ = some (encN zs[j]!)) :
    Calls Try.prog 64 #[.pointer (some ⟨D, 0, none⟩), .slice (some ⟨b, 0, none⟩) n n] w fun e w' => e = .returned (.int .i64 (k.may (!zs.any badN))) ∧ ∃ q, w' = w.drewN q := by
  obtain ⟨bd, bs, va, hb⟩ := hd.blk
  have qc := hb.cell
  unfold dcells at qc
  have hC := contains_calls b n zs w hz hn hc
  have hC' := Lib.hid hC
  clear hC hc hb hd
  generalize zs.any badN = X at *
  unfold Dk.may
  cases hdn : k.down
  · go_enter Try.func64, Try.ntmps64
    go_wp2_with fail
    refine hC'.out.mono ?_
    rintro e w1 ⟨rfl, q, rfl⟩
    cases X
    · go_wp2
      go_ret
      exact ⟨rfl, q, rfl⟩
    · go_wp2
      go_ret
      exact ⟨rfl, q, rfl⟩
  · go_enter Try.func64, Try.ntmps64
    go_wp2
    go_ret
    exact ⟨rfl, 0, rfl⟩
set_option maxHeartbeats 1000000 in
theorem dmay_none (k : Dk) (B D : Nat) (O : Nat → Prop) (w : World) (hd : Disk w B D O k) :
    Calls Try.prog 64 #[.pointer (some ⟨D, 0, none⟩), .slice none 0 0] w fun e w' => e = .returned (.int .i64 (k.may true)) ∧ w' = w := by
  obtain ⟨bd, bs, va, hb⟩ := hd.blk
  have qc := hb.cell
  unfold dcells at qc
  have hC := AnyE.slices_ContainsFunc_empty Try.containsF none 0 (.func (.func 76) #[] #[]) w
  change Calls Try.prog 75 _ _ _ at hC
  have hC' := Lib.hid hC
  clear hC hb hd
  unfold Dk.may
  cases hdn : k.down
  · go_enter Try.func64, Try.ntmps64
    go_wp2_with fail
    refine hC'.out.mono ?_
    rintro e w1 ⟨rfl, rfl⟩
    go_wp2
    go_ret
    exact ⟨rfl, rfl⟩
  · go_enter Try.func64, Try.ntmps64
    go_wp2
    go_ret
    exact ⟨rfl, rfl⟩
theorem dmay_nil (v : Value) (w : World) : Calls Try.prog 64 #[.pointer none, v] w fun e w' => e = .returned (.int .i64 6) ∧ w' = w := by
  go_enter Try.func64, Try.ntmps64
  go_wp2
  go_ret
  exact ⟨rfl, rfl⟩
end Go.Proofs.Ytgclancneohpbaa
