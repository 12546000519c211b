/- Walks: the law's do: Read, Fuse, Crash; all kinds. -/
import Derived.Test.YtgclancneohpbaaDTwo
import Derived.Deep.RegionHeld3
namespace Go.Proofs.Ytgclancneohpbaa
open Go.RowKit Go.Maps Go.Shelf
def RD.step (r : RD) (x : LAct) : RD := match x.kind % 9 with
  | 0 => r.create x.a.data.toList
  | 1 => r.append x.a.data.toList x.bytes
  | 2 => r
  | 3 => r.sync x.a.data.toList
  | 4 => r.syncDir
  | 5 => r.rename x.a.data.toList x.b.data.toList
  | 6 => r.remove x.a.data.toList
  | 7 => r.fused x.n
  | _ => r.crash x.bytes
/-- what do leaves -/
def DoPost (w0 w : World) (L : Nat → Prop) (D g : Nat) (rp rr : RD) (m : Nat) (x : LAct) (e : Ending) (w' : World) : Prop := ∃ b, e = .returned (.bool b) ∧ (rp = rr → b = true) ∧ TwoPost w0 w L D g (rp.step x) (rr.step x) (m + 2) w'
theorem DoPost.of {w0 w : World} {L : Nat → Prop} {D g m loc : Nat} {rp rr rp' rr' : RD} {x : LAct} {b : Bool} {W w' : World} (hs : rp.step x = rp') (hs' : rr.step x = rr') (hW : Below w.heap.size w W) (hb : rp = rr → b = true) (h : TwoPost w0 W (fun j => L j ∨ j = loc) D g rp' rr' (m + 2) w') : DoPost w0 w L D g rp rr m x (.returned (.bool b)) w' := by
  refine ⟨b, rfl, hb, ?_⟩
  rw [hs, hs']
  exact ⟨h.1.less fun j hj => .inl hj, (Keeps.of_below hW).trans (h.2.mono fun j _ e hL => e (.inl hL))⟩
section
variable (w0 w : World) (L : Nat → Prop) (D g : Nat) (rp rr : RD) (m : Nat) (x : LAct) (pv : Option Addr) (cv : Nat)
set_option maxHeartbeats 2000000 in
set_option maxRecDepth 100000 in
theorem do_create (h : Two w0 w L D g rp rr m) (hx : x.fits w) (_ : x.v = .slice pv x.bytes.length cv) (_ : ∀ j, x.v.ownBlock = some j → x.bytes ≠ [] → L j) (_ : x.bytes.length ≤ 65536) (hm : m < 3900) (hkn : x.kind % 9 = 0) :
    Calls Try.prog 33 #[.pointer (some ⟨D, 0, none⟩), .pointer (some ⟨g, 0, none⟩), .agg #[.int .u8 x.kind, .string x.a, .string x.b, .slice pv x.bytes.length cv, .int .i64 x.n]] w (DoPost w0 w L D g rp rr m x) := by
  have hk9 : ((x.kind : Nat) : Int) % 9 = 0 := by omega
  have hkl := hx.kind
  have B1 := (Below.refl w.heap.size w).alloc (Nat.le_refl _) (.cells #[.int .u8 x.kind, .string x.a, .string x.b, .slice pv x.bytes.length cv, .int .i64 x.n] 64)
  have B1d := B1.drew
  have h1 : Two w0 _ (fun j => L j ∨ j = w.heap.size) D g rp rr m := h.hold B1d fun j hj => hj.elim .inl fun e => .inr (.inl ⟨by omega, by simp; omega⟩)
  have bx := Blk.new w 64 #[.int .u8 x.kind, .string x.a, .string x.b, .slice pv x.bytes.length cv, .int .i64 x.n]
  have lc := bx.cell
  have hsp : rp.step x = (fun r => r.create x.a.data.toList) rp := by unfold RD.step; rw [hkn]; rfl
  have hsr : rr.step x = (fun r => r.create x.a.data.toList) rr := by unfold RD.step; rw [hkn]; rfl
  obtain ⟨T1, T2⟩ := two_orders (loc := w.heap.size) (E := fun r => r.createE x.a.data.toList) (S := fun r => r.create x.a.data.toList) (fun w1 rr1 m1 hm1 _ h1 => p_create h1 (by omega) x.a hx.a) (fun w1 rp1 m1 hm1 _ h1 => r_create h1 (by omega) x.a hx.a) h1 (.inr rfl) bx.drew
  have hE : rp = rr → (fun r => r.createE x.a.data.toList) rp = (fun r => r.createE x.a.data.toList) rr := fun e => by rw [e]
  have T1' := Lib.hid T1
  have T2' := Lib.hid T2
  have hE' := Lib.hid hE
  have hsp' := Lib.hid hsp
  have hsr' := Lib.hid hsr
  clear T1 T2 h h1 bx hx hkn hE hsp hsr
  simp only at T1' T2' hE' hsp' hsr'
  generalize (fun r => r.createE x.a.data.toList) rp = E1 at *
  generalize (fun r => r.createE x.a.data.toList) rr = E2 at *
  go_enter Try.func33, Try.ntmps33
  go_wp2_with fail
  go_region_held3 (fun w' => (∀ i, w'.cell? ⟨w.heap.size, i, none⟩ = (#[.int .u8 x.kind, .string x.a, .string x.b, .slice pv x.bytes.length cv, .int .i64 x.n] : Array Value)[i]?)) (first | assumption | go_keep)
    (first
      | (go_at_call 54; with_reducible refine a2.mono ?_; rintro e w6 ⟨rfl, lc6, F6⟩)
      | (go_at_call 23; with_reducible refine b2.mono ?_; rintro e w6 ⟨rfl, lc6, F6⟩)
      | (go_at_call 23; with_reducible refine T1'.out.mono ?_; rintro e w5 ⟨rfl, lc5, a2⟩)
      | (go_at_call 54; with_reducible refine T2'.out.mono ?_; rintro e w5 ⟨rfl, lc5, b2⟩))
  all_goals
    clear T1' T2' lc
    go_wp2
    go_ret
    exact DoPost.of hsp'.out hsr'.out B1d (fun e => by simpa using hE'.out e) F6
set_option maxHeartbeats 2000000 in
set_option maxRecDepth 100000 in
theorem do_append (h : Two w0 w L D g rp rr m) (hx : x.fits w) (hvc : x.v = .slice pv x.bytes.length cv) (hvL : ∀ j, x.v.ownBlock = some j → x.bytes ≠ [] → L j) (hb : x.bytes.length ≤ 65536) (hm : m < 3900) (hkn : x.kind % 9 = 1) :
    Calls Try.prog 33 #[.pointer (some ⟨D, 0, none⟩), .pointer (some ⟨g, 0, none⟩), .agg #[.int .u8 x.kind, .string x.a, .string x.b, .slice pv x.bytes.length cv, .int .i64 x.n]] w (DoPost w0 w L D g rp rr m x) := by
  have hk9 : ((x.kind : Nat) : Int) % 9 = 1 := by omega
  have hkl := hx.kind
  have B1 := (Below.refl w.heap.size w).alloc (Nat.le_refl _) (.cells #[.int .u8 x.kind, .string x.a, .string x.b, .slice pv x.bytes.length cv, .int .i64 x.n] 64)
  have B1d := B1.drew
  have h1 : Two w0 _ (fun j => L j ∨ j = w.heap.size) D g rp rr m := h.hold B1d fun j hj => hj.elim .inl fun e => .inr (.inl ⟨by omega, by simp; omega⟩)
  have bx := Blk.new w 64 #[.int .u8 x.kind, .string x.a, .string x.b, .slice pv x.bytes.length cv, .int .i64 x.n]
  have lc := bx.cell
  have hv1 := hx.v.later B1d
  have hvL1 : ∀ j, x.v.ownBlock = some j → x.bytes ≠ [] → L j ∨ j = w.heap.size := fun j hj hn => .inl (hvL j hj hn)
  rw [hvc] at hv1 hvL1
  have hsp : rp.step x = (fun r => r.append x.a.data.toList x.bytes) rp := by unfold RD.step; rw [hkn]; rfl
  have hsr : rr.step x = (fun r => r.append x.a.data.toList x.bytes) rr := by unfold RD.step; rw [hkn]; rfl
  obtain ⟨T1, T2⟩ := two_orders (loc := w.heap.size) (E := fun r => r.appE x.a.data.toList x.bytes.length) (S := fun r => r.append x.a.data.toList x.bytes) (fun w1 rr1 m1 hm1 hk1 h1 => p_append h1 (by omega) x.a hx.a (hv1.keepsP hk1 fun j hj hn e => e (hvL1 j hj hn)) hvL1 hb) (fun w1 rp1 m1 hm1 hk1 h1 => r_append h1 (by omega) x.a hx.a (hv1.keepsP hk1 fun j hj hn e => e (hvL1 j hj hn)) hvL1 hb) h1 (.inr rfl) bx.drew
  have hE : rp = rr → (fun r => r.appE x.a.data.toList x.bytes.length) rp = (fun r => r.appE x.a.data.toList x.bytes.length) rr := fun e => by rw [e]
  have T1' := Lib.hid T1
  have T2' := Lib.hid T2
  have hE' := Lib.hid hE
  have hsp' := Lib.hid hsp
  have hsr' := Lib.hid hsr
  clear T1 T2 h h1 bx hv1 hvL1 hvL hx hvc hkn hE hsp hsr
  simp only at T1' T2' hE' hsp' hsr'
  generalize (fun r => r.appE x.a.data.toList x.bytes.length) rp = E1 at *
  generalize (fun r => r.appE x.a.data.toList x.bytes.length) rr = E2 at *
  go_enter Try.func33, Try.ntmps33
  go_wp2_with fail
  go_region_held3 (fun w' => (∀ i, w'.cell? ⟨w.heap.size, i, none⟩ = (#[.int .u8 x.kind, .string x.a, .string x.b, .slice pv x.bytes.length cv, .int .i64 x.n] : Array Value)[i]?)) (first | assumption | go_keep)
    (first
      | (go_at_call 55; with_reducible refine a2.mono ?_; rintro e w6 ⟨rfl, lc6, F6⟩)
      | (go_at_call 25; with_reducible refine b2.mono ?_; rintro e w6 ⟨rfl, lc6, F6⟩)
      | (go_at_call 25; with_reducible refine T1'.out.mono ?_; rintro e w5 ⟨rfl, lc5, a2⟩)
      | (go_at_call 55; with_reducible refine T2'.out.mono ?_; rintro e w5 ⟨rfl, lc5, b2⟩))
  all_goals
    clear T1' T2' lc
    go_wp2
    go_ret
    exact DoPost.of hsp'.out hsr'.out B1d (fun e => by simpa using hE'.out e) F6
set_option maxHeartbeats 2000000 in
set_option maxRecDepth 100000 in
theorem do_sync (h : Two w0 w L D g rp rr m) (hx : x.fits w) (_ : x.v = .slice pv x.bytes.length cv) (_ : ∀ j, x.v.ownBlock = some j → x.bytes ≠ [] → L j) (_ : x.bytes.length ≤ 65536) (hm : m < 3900) (hkn : x.kind % 9 = 3) :
    Calls Try.prog 33 #[.pointer (some ⟨D, 0, none⟩), .pointer (some ⟨g, 0, none⟩), .agg #[.int .u8 x.kind, .string x.a, .string x.b, .slice pv x.bytes.length cv, .int .i64 x.n]] w (DoPost w0 w L D g rp rr m x) := by
  have hk9 : ((x.kind : Nat) : Int) % 9 = 3 := by omega
  have hkl := hx.kind
  have B1 := (Below.refl w.heap.size w).alloc (Nat.le_refl _) (.cells #[.int .u8 x.kind, .string x.a, .string x.b, .slice pv x.bytes.length cv, .int .i64 x.n] 64)
  have B1d := B1.drew
  have h1 : Two w0 _ (fun j => L j ∨ j = w.heap.size) D g rp rr m := h.hold B1d fun j hj => hj.elim .inl fun e => .inr (.inl ⟨by omega, by simp; omega⟩)
  have bx := Blk.new w 64 #[.int .u8 x.kind, .string x.a, .string x.b, .slice pv x.bytes.length cv, .int .i64 x.n]
  have lc := bx.cell
  have hsp : rp.step x = (fun r => r.sync x.a.data.toList) rp := by unfold RD.step; rw [hkn]; rfl
  have hsr : rr.step x = (fun r => r.sync x.a.data.toList) rr := by unfold RD.step; rw [hkn]; rfl
  obtain ⟨T1, T2⟩ := two_orders (loc := w.heap.size) (E := fun r => r.syncE x.a.data.toList) (S := fun r => r.sync x.a.data.toList) (fun w1 rr1 m1 hm1 _ h1 => p_sync h1 x.a hx.a) (fun w1 rp1 m1 hm1 _ h1 => r_sync h1 (by omega) x.a hx.a) h1 (.inr rfl) bx.drew
  have hE : rp = rr → (fun r => r.syncE x.a.data.toList) rp = (fun r => r.syncE x.a.data.toList) rr := fun e => by rw [e]
  have T1' := Lib.hid T1
  have T2' := Lib.hid T2
  have hE' := Lib.hid hE
  have hsp' := Lib.hid hsp
  have hsr' := Lib.hid hsr
  clear T1 T2 h h1 bx hx hkn hE hsp hsr
  simp only at T1' T2' hE' hsp' hsr'
  generalize (fun r => r.syncE x.a.data.toList) rp = E1 at *
  generalize (fun r => r.syncE x.a.data.toList) rr = E2 at *
  go_enter Try.func33, Try.ntmps33
  go_wp2_with fail
  go_region_held3 (fun w' => (∀ i, w'.cell? ⟨w.heap.size, i, none⟩ = (#[.int .u8 x.kind, .string x.a, .string x.b, .slice pv x.bytes.length cv, .int .i64 x.n] : Array Value)[i]?)) (first | assumption | go_keep)
    (first
      | (go_at_call 56; with_reducible refine a2.mono ?_; rintro e w6 ⟨rfl, lc6, F6⟩)
      | (go_at_call 38; with_reducible refine b2.mono ?_; rintro e w6 ⟨rfl, lc6, F6⟩)
      | (go_at_call 38; with_reducible refine T1'.out.mono ?_; rintro e w5 ⟨rfl, lc5, a2⟩)
      | (go_at_call 56; with_reducible refine T2'.out.mono ?_; rintro e w5 ⟨rfl, lc5, b2⟩))
  all_goals
    clear T1' T2' lc
    go_wp2
    go_ret
    exact DoPost.of hsp'.out hsr'.out B1d (fun e => by simpa using hE'.out e) F6
set_option maxHeartbeats 2000000 in
set_option maxRecDepth 100000 in
theorem do_syncDir (h : Two w0 w L D g rp rr m) (hx : x.fits w) (_ : x.v = .slice pv x.bytes.length cv) (_ : ∀ j, x.v.ownBlock = some j → x.bytes ≠ [] → L j) (_ : x.bytes.length ≤ 65536) (_ : m < 3900) (hkn : x.kind % 9 = 4) :
    Calls Try.prog 33 #[.pointer (some ⟨D, 0, none⟩), .pointer (some ⟨g, 0, none⟩), .agg #[.int .u8 x.kind, .string x.a, .string x.b, .slice pv x.bytes.length cv, .int .i64 x.n]] w (DoPost w0 w L D g rp rr m x) := by
  have hk9 : ((x.kind : Nat) : Int) % 9 = 4 := by omega
  have hkl := hx.kind
  have B1 := (Below.refl w.heap.size w).alloc (Nat.le_refl _) (.cells #[.int .u8 x.kind, .string x.a, .string x.b, .slice pv x.bytes.length cv, .int .i64 x.n] 64)
  have h1 : Two w0 _ (fun j => L j ∨ j = w.heap.size) D g rp rr m := h.hold B1 fun j hj => hj.elim .inl fun e => .inr (.inl ⟨by omega, by simp; omega⟩)
  have bx := Blk.new w 64 #[.int .u8 x.kind, .string x.a, .string x.b, .slice pv x.bytes.length cv, .int .i64 x.n]
  have lc := bx.cell
  have hsp : rp.step x = (fun r => r.syncDir) rp := by unfold RD.step; rw [hkn]; rfl
  have hsr : rr.step x = (fun r => r.syncDir) rr := by unfold RD.step; rw [hkn]; rfl
  obtain ⟨T1, _⟩ := two_orders (loc := w.heap.size) (E := fun r => r.syncDirE) (S := fun r => r.syncDir) (fun w1 rr1 m1 hm1 _ h1 => p_syncDir h1) (fun w1 rp1 m1 hm1 _ h1 => r_syncDir h1) h1 (.inr rfl) bx
  have hE : rp = rr → (fun r => r.syncDirE) rp = (fun r => r.syncDirE) rr := fun e => by rw [e]
  have T1' := Lib.hid T1
  have hE' := Lib.hid hE
  have hsp' := Lib.hid hsp
  have hsr' := Lib.hid hsr
  clear T1 h h1 bx hx hkn hE hsp hsr
  simp only at T1' hE' hsp' hsr'
  generalize (fun r => r.syncDirE) rp = E1 at *
  generalize (fun r => r.syncDirE) rr = E2 at *
  go_enter Try.func33, Try.ntmps33
  go_wp2_with fail
  refine T1'.out.mono ?_
  rintro e w5 ⟨rfl, lc5, a2⟩
  clear lc
  go_wp2_with fail
  refine a2.mono ?_
  rintro e w6 ⟨rfl, lc6, F6⟩
  clear lc5
  go_wp2
  go_ret
  exact DoPost.of hsp'.out hsr'.out B1 (fun e => by simpa using hE'.out e) F6
set_option maxHeartbeats 2000000 in
set_option maxRecDepth 100000 in
theorem do_rename (h : Two w0 w L D g rp rr m) (hx : x.fits w) (_ : x.v = .slice pv x.bytes.length cv) (_ : ∀ j, x.v.ownBlock = some j → x.bytes ≠ [] → L j) (_ : x.bytes.length ≤ 65536) (hm : m < 3900) (hkn : x.kind % 9 = 5) :
    Calls Try.prog 33 #[.pointer (some ⟨D, 0, none⟩), .pointer (some ⟨g, 0, none⟩), .agg #[.int .u8 x.kind, .string x.a, .string x.b, .slice pv x.bytes.length cv, .int .i64 x.n]] w (DoPost w0 w L D g rp rr m x) := by
  have hk9 : ((x.kind : Nat) : Int) % 9 = 5 := by omega
  have hkl := hx.kind
  have B1 := (Below.refl w.heap.size w).alloc (Nat.le_refl _) (.cells #[.int .u8 x.kind, .string x.a, .string x.b, .slice pv x.bytes.length cv, .int .i64 x.n] 64)
  have B1d := B1.drew
  have h1 : Two w0 _ (fun j => L j ∨ j = w.heap.size) D g rp rr m := h.hold B1d fun j hj => hj.elim .inl fun e => .inr (.inl ⟨by omega, by simp; omega⟩)
  have bx := Blk.new w 64 #[.int .u8 x.kind, .string x.a, .string x.b, .slice pv x.bytes.length cv, .int .i64 x.n]
  have lc := bx.cell
  have hsp : rp.step x = (fun r => r.rename x.a.data.toList x.b.data.toList) rp := by unfold RD.step; rw [hkn]; rfl
  have hsr : rr.step x = (fun r => r.rename x.a.data.toList x.b.data.toList) rr := by unfold RD.step; rw [hkn]; rfl
  obtain ⟨T1, T2⟩ := two_orders (loc := w.heap.size) (E := fun r => r.renameE x.a.data.toList x.b.data.toList) (S := fun r => r.rename x.a.data.toList x.b.data.toList) (fun w1 rr1 m1 hm1 _ h1 => p_rename h1 (by omega) x.a x.b hx.a hx.b) (fun w1 rp1 m1 hm1 _ h1 => r_rename h1 (by omega) x.a x.b hx.a hx.b) h1 (.inr rfl) bx.drew
  have hE : rp = rr → (fun r => r.renameE x.a.data.toList x.b.data.toList) rp = (fun r => r.renameE x.a.data.toList x.b.data.toList) rr := fun e => by rw [e]
  have T1' := Lib.hid T1
  have T2' := Lib.hid T2
  have hE' := Lib.hid hE
  have hsp' := Lib.hid hsp
  have hsr' := Lib.hid hsr
  clear T1 T2 h h1 bx hx hkn hE hsp hsr
  simp only at T1' T2' hE' hsp' hsr'
  generalize (fun r => r.renameE x.a.data.toList x.b.data.toList) rp = E1 at *
  generalize (fun r => r.renameE x.a.data.toList x.b.data.toList) rr = E2 at *
  go_enter Try.func33, Try.ntmps33
  go_wp2_with fail
  go_region_held3 (fun w' => (∀ i, w'.cell? ⟨w.heap.size, i, none⟩ = (#[.int .u8 x.kind, .string x.a, .string x.b, .slice pv x.bytes.length cv, .int .i64 x.n] : Array Value)[i]?)) (first | assumption | go_keep)
    (first
      | (go_at_call 58; with_reducible refine a2.mono ?_; rintro e w6 ⟨rfl, lc6, F6⟩)
      | (go_at_call 40; with_reducible refine b2.mono ?_; rintro e w6 ⟨rfl, lc6, F6⟩)
      | (go_at_call 40; with_reducible refine T1'.out.mono ?_; rintro e w5 ⟨rfl, lc5, a2⟩)
      | (go_at_call 58; with_reducible refine T2'.out.mono ?_; rintro e w5 ⟨rfl, lc5, b2⟩))
  all_goals
    clear T1' T2' lc
    go_wp2
    go_ret
    exact DoPost.of hsp'.out hsr'.out B1d (fun e => by simpa using hE'.out e) F6
set_option maxHeartbeats 2000000 in
set_option maxRecDepth 100000 in
theorem do_remove (h : Two w0 w L D g rp rr m) (hx : x.fits w) (_ : x.v = .slice pv x.bytes.length cv) (_ : ∀ j, x.v.ownBlock = some j → x.bytes ≠ [] → L j) (_ : x.bytes.length ≤ 65536) (hm : m < 3900) (hkn : x.kind % 9 = 6) :
    Calls Try.prog 33 #[.pointer (some ⟨D, 0, none⟩), .pointer (some ⟨g, 0, none⟩), .agg #[.int .u8 x.kind, .string x.a, .string x.b, .slice pv x.bytes.length cv, .int .i64 x.n]] w (DoPost w0 w L D g rp rr m x) := by
  have hk9 : ((x.kind : Nat) : Int) % 9 = 6 := by omega
  have hkl := hx.kind
  have B1 := (Below.refl w.heap.size w).alloc (Nat.le_refl _) (.cells #[.int .u8 x.kind, .string x.a, .string x.b, .slice pv x.bytes.length cv, .int .i64 x.n] 64)
  have B1d := B1.drew
  have h1 : Two w0 _ (fun j => L j ∨ j = w.heap.size) D g rp rr m := h.hold B1d fun j hj => hj.elim .inl fun e => .inr (.inl ⟨by omega, by simp; omega⟩)
  have bx := Blk.new w 64 #[.int .u8 x.kind, .string x.a, .string x.b, .slice pv x.bytes.length cv, .int .i64 x.n]
  have lc := bx.cell
  have hsp : rp.step x = (fun r => r.remove x.a.data.toList) rp := by unfold RD.step; rw [hkn]; rfl
  have hsr : rr.step x = (fun r => r.remove x.a.data.toList) rr := by unfold RD.step; rw [hkn]; rfl
  obtain ⟨T1, T2⟩ := two_orders (loc := w.heap.size) (E := fun r => r.removeE x.a.data.toList) (S := fun r => r.remove x.a.data.toList) (fun w1 rr1 m1 hm1 _ h1 => p_remove h1 (by omega) x.a hx.a) (fun w1 rp1 m1 hm1 _ h1 => r_remove h1 (by omega) x.a hx.a) h1 (.inr rfl) bx.drew
  have hE : rp = rr → (fun r => r.removeE x.a.data.toList) rp = (fun r => r.removeE x.a.data.toList) rr := fun e => by rw [e]
  have T1' := Lib.hid T1
  have T2' := Lib.hid T2
  have hE' := Lib.hid hE
  have hsp' := Lib.hid hsp
  have hsr' := Lib.hid hsr
  clear T1 T2 h h1 bx hx hkn hE hsp hsr
  simp only at T1' T2' hE' hsp' hsr'
  generalize (fun r => r.removeE x.a.data.toList) rp = E1 at *
  generalize (fun r => r.removeE x.a.data.toList) rr = E2 at *
  go_enter Try.func33, Try.ntmps33
  go_wp2_with fail
  go_region_held3 (fun w' => (∀ i, w'.cell? ⟨w.heap.size, i, none⟩ = (#[.int .u8 x.kind, .string x.a, .string x.b, .slice pv x.bytes.length cv, .int .i64 x.n] : Array Value)[i]?)) (first | assumption | go_keep)
    (first
      | (go_at_call 59; with_reducible refine a2.mono ?_; rintro e w6 ⟨rfl, lc6, F6⟩)
      | (go_at_call 30; with_reducible refine b2.mono ?_; rintro e w6 ⟨rfl, lc6, F6⟩)
      | (go_at_call 30; with_reducible refine T1'.out.mono ?_; rintro e w5 ⟨rfl, lc5, a2⟩)
      | (go_at_call 59; with_reducible refine T2'.out.mono ?_; rintro e w5 ⟨rfl, lc5, b2⟩))
  all_goals
    clear T1' T2' lc
    go_wp2
    go_ret
    exact DoPost.of hsp'.out hsr'.out B1d (fun e => by simpa using hE'.out e) F6
end
end Go.Proofs.Ytgclancneohpbaa
namespace Go.Proofs.Ytgclancneohpbaa
open Go.RowKit Go.Maps Go.Shelf
section
variable (w0 w : World) (L : Nat → Prop) (D g : Nat) (rp rr : RD) (m : Nat) (x : LAct) (pv : Option Addr) (cv : Nat)
set_option maxHeartbeats 2000000 in
set_option maxRecDepth 100000 in
theorem do_fuse (h : Two w0 w L D g rp rr m) (hx : x.fits w) (hkn : x.kind % 9 = 7) :
    Calls Try.prog 33 #[.pointer (some ⟨D, 0, none⟩), .pointer (some ⟨g, 0, none⟩), .agg #[.int .u8 x.kind, .string x.a, .string x.b, .slice pv x.bytes.length cv, .int .i64 x.n]] w (DoPost w0 w L D g rp rr m x) := by
  have hk9 : ((x.kind : Nat) : Int) % 9 = 7 := by omega
  have hkl := hx.kind
  have B1 := (Below.refl w.heap.size w).alloc (Nat.le_refl _) (.cells #[.int .u8 x.kind, .string x.a, .string x.b, .slice pv x.bytes.length cv, .int .i64 x.n] 64)
  have h1 : Two w0 _ (fun j => L j ∨ j = w.heap.size) D g rp rr m := h.hold B1 fun j hj => hj.elim .inl fun e => .inr (.inl ⟨by omega, by simp; omega⟩)
  have bx := Blk.new w 64 #[.int .u8 x.kind, .string x.a, .string x.b, .slice pv x.bytes.length cv, .int .i64 x.n]
  have lc := bx.cell
  have hsp : rp.step x = rp.fused x.n := by unfold RD.step; rw [hkn]; rfl
  have hsr : rr.step x = rr.fused x.n := by unfold RD.step; rw [hkn]; rfl
  have T1 := p_fuse h1 x.n hx.n.2
  have hn2 := hx.n.2
  have T1' := Lib.hid T1
  have hsp' := Lib.hid hsp
  have hsr' := Lib.hid hsr
  have bx' := Lib.hid bx
  clear T1 h h1 hx hkn hsp hsr bx
  go_enter Try.func33, Try.ntmps33
  go_wp2_with fail
  refine T1'.out.mono ?_
  rintro e w5 ⟨rfl, h5⟩
  have bx5 := bx'.out.keeps h5.2 (fun e => e (.inr rfl))
  have lc5 := bx5.cell
  have T2 := r_fuse h5.1 x.n hn2
  have T2' := Lib.hid T2
  have h5' := Lib.hid h5
  clear T2 h5 lc bx5 T1'
  go_wp2_with fail
  refine T2'.out.mono ?_
  rintro e w6 ⟨rfl, h6⟩
  go_wp2
  go_ret
  exact DoPost.of hsp'.out hsr'.out B1 (fun _ => rfl) (h5'.out.trans h6)
set_option maxHeartbeats 2000000 in
set_option maxRecDepth 100000 in
theorem do_crash (h : Two w0 w L D g rp rr m) (hx : x.fits w) (hvc : x.v = .slice pv x.bytes.length cv) (hvL : ∀ j, x.v.ownBlock = some j → x.bytes ≠ [] → L j) (hb : x.bytes.length ≤ 65536) (hm : m < 3900) (hkn : x.kind % 9 = 8) :
    Calls Try.prog 33 #[.pointer (some ⟨D, 0, none⟩), .pointer (some ⟨g, 0, none⟩), .agg #[.int .u8 x.kind, .string x.a, .string x.b, .slice pv x.bytes.length cv, .int .i64 x.n]] w (DoPost w0 w L D g rp rr m x) := by
  have hk9 : ((x.kind : Nat) : Int) % 9 = 8 := by omega
  have hkl := hx.kind
  have B1 := (Below.refl w.heap.size w).alloc (Nat.le_refl _) (.cells #[.int .u8 x.kind, .string x.a, .string x.b, .slice pv x.bytes.length cv, .int .i64 x.n] 64)
  have h1 : Two w0 _ (fun j => L j ∨ j = w.heap.size) D g rp rr m := h.hold B1 fun j hj => hj.elim .inl fun e => .inr (.inl ⟨by omega, by simp; omega⟩)
  have bx := Blk.new w 64 #[.int .u8 x.kind, .string x.a, .string x.b, .slice pv x.bytes.length cv, .int .i64 x.n]
  have lc := bx.cell
  have hv1 := hx.v.later B1
  have hvL1 : ∀ j, x.v.ownBlock = some j → x.bytes ≠ [] → L j ∨ j = w.heap.size := fun j hj hn => .inl (hvL j hj hn)
  rw [hvc] at hv1 hvL1
  have hsp : rp.step x = rp.crash x.bytes := by unfold RD.step; rw [hkn]; rfl
  have hsr : rr.step x = rr.crash x.bytes := by unfold RD.step; rw [hkn]; rfl
  have T1 := p_crash h1 (by omega) hv1 hvL1 hb
  have T1' := Lib.hid T1
  have hsp' := Lib.hid hsp
  have hsr' := Lib.hid hsr
  have bx' := Lib.hid bx
  have hv1' := Lib.hid hv1
  have hvL1' := Lib.hid hvL1
  clear T1 h h1 hx hkn hsp hsr bx hv1 hvL1 hvL hvc
  go_enter Try.func33, Try.ntmps33
  go_wp2_with fail
  refine T1'.out.mono ?_
  rintro e w5 ⟨rfl, h5⟩
  have bx5 := bx'.out.keeps h5.2 (fun e => e (.inr rfl))
  have lc5 := bx5.cell
  have T2 := r_crash h5.1 (by omega) (hv1'.out.keepsP h5.2 fun j hj hn e => e (hvL1'.out j hj hn)) hvL1'.out hb
  have T2' := Lib.hid T2
  have h5' := Lib.hid h5
  clear T2 h5 lc bx5 T1'
  go_wp2_with fail
  refine T2'.out.mono ?_
  rintro e w6 ⟨rfl, h6⟩
  go_wp2
  go_ret
  exact DoPost.of hsp'.out hsr'.out B1 (fun _ => rfl) (h5'.out.trans h6)
theorem nums_cells (l : List UInt8) : bcells l = (l.map fun x => (x.toNat : Int)).map (Value.int .u8) := by
  unfold bcells; rw [List.map_map]; rfl
set_option maxHeartbeats 4000000 in
set_option maxRecDepth 100000 in
theorem do_read (h : Two w0 w L D g rp rr m) (hx : x.fits w) (hm : m < 3900) (hlen : ∀ s, (rp.readB s).length ≤ 1000000000) (hkn : x.kind % 9 = 2) :
    Calls Try.prog 33 #[.pointer (some ⟨D, 0, none⟩), .pointer (some ⟨g, 0, none⟩), .agg #[.int .u8 x.kind, .string x.a, .string x.b, .slice pv x.bytes.length cv, .int .i64 x.n]] w (DoPost w0 w L D g rp rr m x) := by
  have hk9 : ((x.kind : Nat) : Int) % 9 = 2 := by omega
  have hkl := hx.kind
  have B1 := (Below.refl w.heap.size w).alloc (Nat.le_refl _) (.cells #[.int .u8 x.kind, .string x.a, .string x.b, .slice pv x.bytes.length cv, .int .i64 x.n] 64)
  have bx := Blk.new w 64 #[.int .u8 x.kind, .string x.a, .string x.b, .slice pv x.bytes.length cv, .int .i64 x.n]
  have lc := bx.cell
  have hsp : rp.step x = rp := by unfold RD.step; rw [hkn]; rfl
  have hsr : rr.step x = rr := by unfold RD.step; rw [hkn]; rfl
  have h1 := h.later B1
  have T1 := p_read h1 (by omega) x.a hx.a
  have hl1 := hlen x.a.data.toList
  have hxa := hx.a
  have hfin : ∀ (b : Bool) w', (rp = rr → b = true) → Below w.heap.size w w' → DoPost w0 w L D g rp rr m x (.returned (.bool b)) w' := fun b w' hb hB => ⟨b, rfl, hb, by rw [hsp, hsr]; exact ⟨(h.later hB).more (by omega), .of_below hB⟩⟩
  have hEq : rp = rr → rp.findE x.a.data.toList = rr.findE x.a.data.toList ∧ rp.readB x.a.data.toList = rr.readB x.a.data.toList := fun e => by rw [e]; exact ⟨rfl, rfl⟩
  have hEq' := Lib.hid hEq
  have hfin' := Lib.hid hfin
  have T1' := Lib.hid T1
  have h1' := Lib.hid h1
  have bx' := Lib.hid bx
  clear T1 h h1 hx hkn hsp hsr bx hlen hfin hEq
  go_enter Try.func33, Try.ntmps33
  go_wp2_with fail
  refine T1'.out.mono ?_
  rintro e w5 ⟨v5, rfl, r5, b5⟩
  obtain ⟨p5, c5, rfl⟩ := own_slice r5
  have bx5 := bx'.out.below b5 bx'.out.lt
  have lc5 := bx5.cell
  have h5 := h1'.out.later b5
  have T2 := r_read h5 (by omega) x.a hxa
  have T2' := Lib.hid T2
  have r5' := Lib.hid r5
  clear T2 h5 lc bx5 T1' r5
  go_wp2_with fail
  refine T2'.out.mono ?_
  rintro e w6 ⟨v6, rfl, r6, b6⟩
  obtain ⟨p6, c6, rfl⟩ := r6.slice
  have B6 := B1.trans ((b5.trans (b6.mono b5.size)).mono (by simp))
  have r5o := own_keeps (S := fun _ => False) r5'.out (.of_below b6) (fun _ _ => id)
  have hc1 := bytes_string (Bytes.of_own r5o)
  have hc2 := bytes_string r6
  have r5h := Lib.hid r5o
  have hz6 := b5.size
  simp only [World.size_alloc] at hz6
  clear r5' r6 b5 b6 lc5 T2' r5o h1' bx' B1
  generalize rp.findE x.a.data.toList = E1 at *
  generalize rr.findE x.a.data.toList = E2 at *
  generalize rp.readB x.a.data.toList = l1 at *
  generalize rr.readB x.a.data.toList = l2 at *
  by_cases hE : E1 = E2
  · subst hE
    have hs : l1 = l2 → (l1 == l2) = true := fun e => beq_iff_eq.2 e
    have hs' := Lib.hid hs
    clear hs
    go_wp2_with fail
    go_loopw [12, 70] (fun _ i wr => ∃ (k : Nat) (zs : List Int), k ≤ l1.length ∧ zs.length = l1.length ∧ i = .int .i64 k ∧ wr.ownsRow (w.heap.size + 1) 5 1 (.slice p5 l1.length c5) l1.length (zs.map (Value.int .u8)) ∧ Below w.heap.size w wr) (fun _ i _ => l1.length - (intOf i).toNat)
    case atStart => exact ⟨0, l1.map fun x => (x.toNat : Int), Nat.zero_le _, by rw [List.length_map], rfl, by rw [← nums_cells]; have := r5h.out; simp only [World.size_alloc] at this; exact this, B6⟩
    case round =>
      clear hc1 hc2
      obtain ⟨k, zs, hk, hzl, rfl, ho, hB⟩ := hrel
      by_cases hlt : k < l1.length
      · obtain ⟨gb, hgb⟩ : ∃ gb, p5 = some ⟨gb, 0, none⟩ := by
          obtain ⟨_, ⟨e, e0⟩ | ⟨f, _, _, e, _⟩⟩ := ho
          · omega
          · injection e with e1; exact ⟨f, e1⟩
        subst hgb
        have hzk : zs[k]? = some zs[k] := List.getElem?_eq_getElem (by omega)
        have q0 : wr.cell? ⟨gb, k, none⟩ = some (.int .u8 zs[k]) := by rw [ho.cellAt k (by omega), List.getElem?_map, hzk]; rfl
        have qf := ho.frozenAt k
        have hst : ∀ z : Int, (wr.setCell ⟨gb, k, none⟩ (.int .u8 z)).ownsRow (w.heap.size + 1) 5 1 (.slice (some ⟨gb, 0, none⟩) l1.length c5) l1.length ((zs.set k z).map (Value.int .u8)) := fun z => by rw [List.map_set]; exact (ho.stored k (.int .u8 z)).1
        have hgl := (ho.lt gb rfl)
        have hBn := fun z : Int => hB.setCell (p := ⟨gb, k, none⟩) (by show w.heap.size ≤ gb; omega) (.int .u8 z)
        generalize zs[k] = z0 at *
        have hst' := Lib.hid hst
        have hBn' := Lib.hid hBn
        have hzl' := Lib.hid hzl
        clear hst hBn hzk ho hzl hB
        go_wp2_with fail
        go_roundw
        case rel => exact ⟨k + 1, zs.set k _, by omega, by rw [List.length_set]; exact hzl'.out, by go_num, hst'.out _, hBn'.out _⟩
        case measure => simp [intOf]; omega
      · go_wp2_with fail
        go_ret
        exact hfin'.out _ _ (fun e => hs'.out (hEq'.out e).2) hB
  · have hE' : (E1 == E2) = false := by rw [beq_eq_false_iff_ne]; exact hE
    have hE2 := Lib.hid hE
    clear hE hc1 hc2
    go_wp2_with fail
    go_loopw [12, 70] (fun _ i wr => ∃ (k : Nat) (zs : List Int), k ≤ l1.length ∧ zs.length = l1.length ∧ i = .int .i64 k ∧ wr.ownsRow (w.heap.size + 1) 5 1 (.slice p5 l1.length c5) l1.length (zs.map (Value.int .u8)) ∧ Below w.heap.size w wr) (fun _ i _ => l1.length - (intOf i).toNat)
    case atStart => exact ⟨0, l1.map fun x => (x.toNat : Int), Nat.zero_le _, by rw [List.length_map], rfl, by rw [← nums_cells]; have := r5h.out; simp only [World.size_alloc] at this; exact this, B6⟩
    case round =>
      obtain ⟨k, zs, hk, hzl, rfl, ho, hB⟩ := hrel
      by_cases hlt : k < l1.length
      · obtain ⟨gb, hgb⟩ : ∃ gb, p5 = some ⟨gb, 0, none⟩ := by
          obtain ⟨_, ⟨e, e0⟩ | ⟨f, _, _, e, _⟩⟩ := ho
          · omega
          · injection e with e1; exact ⟨f, e1⟩
        subst hgb
        have hzk : zs[k]? = some zs[k] := List.getElem?_eq_getElem (by omega)
        have q0 : wr.cell? ⟨gb, k, none⟩ = some (.int .u8 zs[k]) := by rw [ho.cellAt k (by omega), List.getElem?_map, hzk]; rfl
        have qf := ho.frozenAt k
        have hst : ∀ z : Int, (wr.setCell ⟨gb, k, none⟩ (.int .u8 z)).ownsRow (w.heap.size + 1) 5 1 (.slice (some ⟨gb, 0, none⟩) l1.length c5) l1.length ((zs.set k z).map (Value.int .u8)) := fun z => by rw [List.map_set]; exact (ho.stored k (.int .u8 z)).1
        have hgl := (ho.lt gb rfl)
        have hBn := fun z : Int => hB.setCell (p := ⟨gb, k, none⟩) (by show w.heap.size ≤ gb; omega) (.int .u8 z)
        generalize zs[k] = z0 at *
        have hst' := Lib.hid hst
        have hBn' := Lib.hid hBn
        have hzl' := Lib.hid hzl
        clear hst hBn hzk ho hzl hB
        go_wp2_with fail
        go_roundw
        case rel => exact ⟨k + 1, zs.set k _, by omega, by rw [List.length_set]; exact hzl'.out, by go_num, hst'.out _, hBn'.out _⟩
        case measure => simp [intOf]; omega
      · go_wp2_with fail
        go_ret
        exact hfin'.out _ _ (fun e => absurd (hEq'.out e).1 hE2.out) hB
theorem do_calls01 (h : Two w0 w L D g rp rr m) (hx : x.fits w) (hvL : ∀ j, x.v.ownBlock = some j → x.bytes ≠ [] → L j) (hb : x.bytes.length ≤ 65536) (hm : m < 3900) (hlen : ∀ s, (rp.readB s).length ≤ 1000000000) :
    Calls Try.prog 33 #[.pointer (some ⟨D, 0, none⟩), .pointer (some ⟨g, 0, none⟩), .agg #[.int .u8 x.kind, .string x.a, .string x.b, x.v, .int .i64 x.n]] w (DoPost w0 w L D g rp rr m x) := by
  obtain ⟨pv, cv, hvc⟩ := hx.v.slice
  have hr : x.kind % 9 < 9 := Nat.mod_lt _ (by decide)
  rw [hvc]
  have hc : x.kind % 9 = 0 ∨ x.kind % 9 = 1 ∨ x.kind % 9 = 2 ∨ x.kind % 9 = 3 ∨ x.kind % 9 = 4 ∨ x.kind % 9 = 5 ∨ x.kind % 9 = 6 ∨ x.kind % 9 = 7 ∨ x.kind % 9 = 8 := by omega
  rcases hc with e | e | e | e | e | e | e | e | e
  · exact do_create w0 w L D g rp rr m x pv cv h hx hvc hvL hb hm e
  · exact do_append w0 w L D g rp rr m x pv cv h hx hvc hvL hb hm e
  · exact do_read w0 w L D g rp rr m x pv cv h hx hm hlen e
  · exact do_sync w0 w L D g rp rr m x pv cv h hx hvc hvL hb hm e
  · exact do_syncDir w0 w L D g rp rr m x pv cv h hx hvc hvL hb hm e
  · exact do_rename w0 w L D g rp rr m x pv cv h hx hvc hvL hb hm e
  · exact do_remove w0 w L D g rp rr m x pv cv h hx hvc hvL hb hm e
  · exact do_fuse w0 w L D g rp rr m x pv cv h hx e
  · exact do_crash w0 w L D g rp rr m x pv cv h hx hvc hvL hb hm e
end
end Go.Proofs.Ytgclancneohpbaa
