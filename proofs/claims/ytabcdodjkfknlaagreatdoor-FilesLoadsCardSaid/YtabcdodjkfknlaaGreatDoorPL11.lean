/- Walks: Encode. Walks: tables cloned; a version's edit. Walks: a version's edit. Walks: which versions may be. Walks: which versions may be: the tables. -/
import Derived.Test.YtabcdodjkfknlaaGreatDoorPL10
import Derived.Test.YtabcdodjkfknlaaGreatDoorPL09
import Derived.WalkLawsBesides
namespace Go.Proofs.YtabcdodjkfknlaaGreatDoor
open Go.RowKit
attribute [local go_sem ↓] dapp_op dslK_op
attribute [local go_sem] Oper.semAt_some
/-- numbers that were just laid, as an argument -/
theorem ints_at {w : World} {g : Nat} {ns : List Int} (h : Blk w g 3 (ns.map fun n => Value.int .i64 n).toArray) : rkI.At w (some ⟨g, 0, none⟩) ns := by
  intro k x hx
  refine ⟨_, rfl, h.lt, fun j u hu => ?_⟩
  rcases j with _ | j
  · obtain rfl : Value.int .i64 x = u := by simpa [rkI] using hu
    rw [show k * rkI.K = k from Nat.mul_one k, Nat.add_zero, Addr.add_lit, Nat.zero_add, h.cell]
    simp [hx]
  · simp [rkI] at hu
theorem Enc.alloc {w1 w : World} {B bb : Nat} {l : List UInt8} (h : Enc w1 w B bb l) (o : Obj) : Enc w1 (w.alloc o) B bb l := by
  obtain ⟨h1, h2, h3, p, c, h4, h5⟩ := h
  exact ⟨h1.alloc o, h2, h3, p, c, h4.alloc o, h5.later ((Below.refl _ _).alloc (Nat.le_refl _) o)⟩
theorem Enc.start (w : World) (B : Nat) (h : B ≤ w.heap.size) : Enc (w.alloc (.cells #[.slice none 0 0] 43)) (w.alloc (.cells #[.slice none 0 0] 43)) B w.heap.size [] :=
  ⟨Keeps.refl _ _, by simp, by simp; omega, none, 0, Blk.new _ _ _, BOwn.nil _ _⟩
theorem enc1_new (w1 w : World) (B bb b2 : Nat) (l : List UInt8) (ns : List Int) (n : Nat) (cells : Array Value) (h : Enc w1 w B bb l) (hb : w.heap.size = b2) (hc : cells = (ns.map fun n => Value.int .i64 n).toArray) (hn : ns.length = n)
    (hr : ∀ n ∈ ns, 0 ≤ n ∧ n < 4611686018427387904) (hs : n ≤ 1000000) (hl : l.length + (ns.flatMap uvI).length ≤ 10000000) :
    Calls Tryz.prog 89 #[.slice (some ⟨b2, 0, none⟩) n n, .pointer (some ⟨bb, 0, none⟩)] (w.alloc (.cells cells 3)) fun e w' => e = .returned (.tuple #[]) ∧ Enc w1 w' B bb (l ++ ns.flatMap uvI) ∧ Keeps (fun j => j = bb) w w' := by
  subst hb hn hc
  have hlt := Nat.lt_of_lt_of_le h.lt h.keep.size
  refine (enc1_calls w1 _ B bb l _ _ ns (h.alloc _) (ints_at (Blk.new w 3 _)) (fun a e _ => by injection e with e; subst e; show w.heap.size ≠ bb; omega) hr hs hl).mono ?_
  rintro e w2 ⟨h1, h2, h3⟩
  exact ⟨h1, h2, ((Keeps.refl (fun j => j = bb) w).alloc _).trans h3⟩
theorem tbl_right {e : Edt} (h : e.right = true) {t : Tbl} (ht : t ∈ e.add) : (0 ≤ t.num ∧ t.num < 4611686018427387904) ∧ (0 ≤ t.level ∧ t.level < 4611686018427387904) ∧ (0 ≤ t.size ∧ t.size < 4611686018427387904) := by
  unfold Edt.right at h
  simp only [Bool.and_eq_true, Bool.not_eq_true', List.all_eq_true] at h
  have := h.2 t ht
  unfold Tbl.right at this
  simp only [Bool.and_eq_true, Bool.not_eq_true'] at this
  exact ⟨oddI_no.1 this.1.1, oddI_no.1 this.1.2, oddI_no.1 this.2⟩
theorem rest_right {e : Edt} (h : e.right = true) : (0 ≤ e.log ∧ e.log < 4611686018427387904) ∧ (0 ≤ e.next ∧ e.next < 4611686018427387904) ∧ ∀ n ∈ e.drop, 0 ≤ n ∧ n < 4611686018427387904 := by
  unfold Edt.right at h
  simp only [Bool.and_eq_true, Bool.not_eq_true', List.all_eq_true] at h
  exact ⟨oddI_no.1 h.1.1.1, oddI_no.1 h.1.1.2, fun n hn => oddI_no.1 (h.1.2 n hn)⟩
def EncPost (w : World) (x : Edt) (e : Ending) (w' : World) : Prop :=
  Below w.heap.size w w' ∧ ((x.right = false ∧ e = .returned (.tuple #[.slice none 0 0, .int .i64 1])) ∨ (x.right = true ∧ ∃ p c, e = .returned (.tuple #[.slice p x.bytes.length c, .int .i64 0]) ∧ BOwn w.heap.size w' (.slice p x.bytes.length c) x.bytes))
set_option maxHeartbeats 2000000 in
set_option maxRecDepth 100000 in
theorem encode_calls (v : Value) (x : Edt) (w : World) (h : EdtAt w v x) (hl : x.bytes.length ≤ 10000000) (ht : ∀ t ∈ x.add, t.first.size ≤ 1000000 ∧ t.last.size ≤ 1000000) :
    Calls Tryz.prog 43 #[v] w (EncPost w x) := by
  have hxr := x.right
  obtain ⟨r, hr⟩ : ∃ r, x.right = r := ⟨_, rfl⟩
  have hR := fun W hb => right_calls v x W (h.later hb)
  rw [hr] at hR
  obtain ⟨⟨pa, ca, pd, cd, rfl, hA, hD⟩, ⟨h1, h2⟩, h3, h4, h5, h6, h7, h8, h9, h10⟩ := h
  have hpost : EncPost w x = fun e w' => Below w.heap.size w w' ∧ ((r = false ∧ e = .returned (.tuple #[.slice none 0 0, .int .i64 1])) ∨ (r = true ∧ ∃ p c, e = .returned (.tuple #[.slice p x.bytes.length c, .int .i64 0]) ∧ BOwn w.heap.size w' (.slice p x.bytes.length c) x.bytes)) := by
    funext e w'; unfold EncPost; rw [hr]
  rw [hpost]
  have hA' := Lib.hid hA
  have hD' := Lib.hid hD
  have h3' := Lib.hid h3
  have h4' := Lib.hid h4
  have ht' := Lib.hid ht
  have hr' := Lib.hid hr
  have hbytes := Lib.hid (show x.bytes = uv x.add.length ++ x.add.flatMap Tbl.bytes ++ uv x.drop.length ++ x.drop.flatMap uvI ++ uv x.floor ++ uv x.head ++ uvI x.log ++ uvI x.next from rfl)
  generalize hXB : x.bytes = XB at *
  obtain ⟨add, drop, fl, hd, lg, nx⟩ := x
  simp only at h1 h2 h5 h6 h7 h8 h9 h10 hR hbytes hA' hD' h3' h4' ht' ⊢
  have bE := Blk.new w 33 #[.slice pa add.length ca, .slice pd drop.length cd, .int .u64 fl, .int .u64 hd, .int .i64 lg, .int .i64 nx]
  have hb := (Below.refl w.heap.size w).alloc (Nat.le_refl _) (.cells #[.slice pa add.length ca, .slice pd drop.length cd, .int .u64 fl, .int .u64 hd, .int .i64 lg, .int .i64 nx] 33)
  obtain ⟨nA, hnA⟩ : ∃ nA, add.length = nA := ⟨_, rfl⟩
  obtain ⟨nD, hnD⟩ : ∃ nD, drop.length = nD := ⟨_, rfl⟩
  have hnA' := Lib.hid hnA
  have hnD' := Lib.hid hnD
  rw [hnA] at bE hb hR h1 ⊢
  rw [hnD] at bE hb hR h2 ⊢
  have cE := bE.cell
  have hb' := Lib.hid hb
  have bE' := Lib.hid bE
  have hR' := Lib.hid (hR _ hb)
  clear hb bE hA hD h3 h4 hR hpost ht hr hxr hXB hnA hnD
  cases r
  · go_enter Tryz.func43, Tryz.ntmps43
    go_wp2_with (go_at_call 88; ((with_reducible refine hR'.out.mono ?_); rintro e w1 ⟨rfl, hb1⟩))
    go_ret2
    exact ⟨hb'.out.trans (hb1.mono hb'.out.size), .inl ⟨by first | rfl | trivial, rfl⟩⟩
  · go_enter Tryz.func43, Tryz.ntmps43
    go_wp2_with (go_at_call 88; ((with_reducible refine hR'.out.mono ?_); rintro e wr ⟨rfl, hb1⟩; have cE1 := (bE'.out.below hb1 bE'.out.lt).cell; clear cE; have hb1' := Lib.hid hb1; have hEr := (bE'.out.below hb1 bE'.out.lt).lt; clear hb1))
    have hBr : w.heap.size ≤ wr.heap.size := by omega
    have hC := enc1_new _ _ w.heap.size wr.heap.size (wr.heap.size + 1) [] [(nA : Int)] 1 #[.int .i64 nA] (Enc.start wr w.heap.size hBr) (by simp) rfl rfl (by simp; omega) (by omega) (by simp [uvI]; have := uv_len10 (n := nA) (by omega); omega)
    (with_reducible refine hC.mono ?_)
    rintro e w2 ⟨rfl, hE2, hK2⟩
    clear hC
    obtain ⟨w1, hw1⟩ : ∃ w1, wr.alloc (.cells #[.slice none 0 0] 43) = w1 := ⟨_, rfl⟩
    have bE1 : Blk w1 w.heap.size 33 #[.slice pa nA ca, .slice pd nD cd, .int .u64 fl, .int .u64 hd, .int .i64 lg, .int .i64 nx] := by rw [← hw1]; exact (bE'.out.below hb1'.out bE'.out.lt).alloc _
    have hwb : Below w.heap.size w w1 := by rw [← hw1]; exact (hb'.out.trans (hb1'.out.mono hb'.out.size)).alloc hBr _
    rw [hw1] at hE2 hK2
    have hne : w.heap.size ≠ wr.heap.size := by omega
    obtain ⟨bb, hbb⟩ : ∃ bb, wr.heap.size = bb := ⟨_, rfl⟩
    rw [hbb] at hE2 hK2 hBr hne ⊢
    have hAt : ∀ w', Keeps (fun j => j = bb) w1 w' → rkT.At w' pa add ∧ rkI.At w' pd drop ∧ (∀ a, pd = some a → drop ≠ [] → ¬ a.block = bb) := fun w' hk => by
      have hlow : ∀ {α : Type} {r : RowK α} {p : Option Addr} {l : List α}, r.At w p l → ∀ a, p = some a → l ≠ [] → ¬ a.block = bb := fun {α r p l} h a hp hl => by
        obtain ⟨x, hx⟩ : ∃ x, l[0]? = some x := by cases l with | nil => exact absurd rfl hl | cons y _ => exact ⟨y, rfl⟩
        obtain ⟨a', hp', hlt, _⟩ := h 0 x hx
        rw [hp] at hp'
        obtain rfl := Option.some.inj hp'
        omega
      exact ⟨(hA'.out.below hwb).keepsP hk (hlow hA'.out), (hD'.out.below hwb).keepsP hk (hlow hD'.out), hlow hD'.out⟩
    have bE1' := Lib.hid bE1
    have hwb' := Lib.hid hwb
    have hAt' := Lib.hid hAt
    have hE2' := Lib.hid hE2
    clear hK2 hwb hAt hA' hD' hE2 bE1 hb1' hEr cE1 bE' hb' hbb hw1
    have cE2 := (bE1'.out.keeps hE2'.out.keep (fun h => hne h)).cell
    go_wp2
    rw [List.nil_append, show [(nA : Int)].flatMap uvI = uv nA from by simp [uvI]] at hE2'
    go_loopw [7, 21] (fun _ i wr => ∃ k : Nat, i = .int .i64 k ∧ k ≤ nA ∧ Enc w1 wr w.heap.size bb (uv nA ++ (add.take k).flatMap Tbl.bytes)) (fun _ i _ => nA - (intOf i).toNat)
    case atStart => exact ⟨0, rfl, by omega, by rw [List.take_zero, List.flatMap_nil, List.append_nil]; exact hE2'.out⟩
    case round =>
      clear hE2' cE2
      obtain ⟨wo, rfl⟩ : ∃ wo : World, wo = wr := ⟨_, rfl⟩
      obtain ⟨k, rfl, hk, hE⟩ := hrel
      by_cases hlt : k < nA
      · obtain ⟨t, ht⟩ : ∃ t, add[k]? = some t := ⟨_, List.getElem?_eq_getElem (by rw [hnA'.out]; exact hlt)⟩
        obtain ⟨a, b, rfl, hab, hbl, q0, q1, q2, q3, q4⟩ := tbl_at (hAt'.out _ hE.keep).1 ht
        have hmem := List.mem_of_getElem? ht
        obtain ⟨s1, s2⟩ := ht'.out t hmem
        have hfn := flat_next (f := Tbl.bytes) ht
        obtain ⟨r1, r2, r3⟩ := tbl_right hr'.out hmem
        obtain ⟨tn, tl, tz, tf, ta⟩ := t
        simp only at q0 q1 q2 q3 q4 s1 s2 r1 r2 r3
        have hfl := flat_take (f := Tbl.bytes) (ns := add) (k := k + 1)
        obtain ⟨x, hx⟩ : ∃ x, uv nA ++ (add.take k).flatMap Tbl.bytes = x := ⟨_, rfl⟩
        have hfx : uv nA ++ (add.take (k + 1)).flatMap Tbl.bytes = x ++ [tn, tl, tz].flatMap uvI ++ utx tf ++ utx ta := by
          rw [hfn, ← List.append_assoc, hx]
          simp only [Tbl.bytes, List.flatMap_cons, List.flatMap_nil, List.append_nil, List.append_assoc]
        have hlx : (x ++ [tn, tl, tz].flatMap uvI ++ utx tf ++ utx ta).length ≤ 10000000 := by
          rw [← hfx]
          rw [hbytes.out, hnA'.out] at hl
          simp only [List.length_append] at hl ⊢
          omega
        rw [hx] at hE
        have hlt2 := Nat.lt_of_lt_of_le hE.lt hE.keep.size
        have hC := enc1_new _ _ w.heap.size bb (wo.heap.size + 1) x [tn, tl, tz] 3 #[.int .i64 tn, .int .i64 tl, .int .i64 tz] (hE.alloc (.cells #[.int .i64 tn, .int .i64 tl, .int .i64 tz, .string tf, .string ta] 76)) (by simp) rfl rfl (by intro n hn; simp at hn; rcases hn with rfl | rfl | rfl <;> assumption) (by omega) (by simp only [List.length_append] at hlx ⊢; omega)
        obtain ⟨x3, hx3⟩ : ∃ x3, x ++ [tn, tl, tz].flatMap uvI = x3 := ⟨_, rfl⟩
        rw [hx3] at hfx hlx hC
        have bT := Blk.new wo 76 #[.int .i64 tn, .int .i64 tl, .int .i64 tz, .string tf, .string ta]
        have hfx' := Lib.hid hfx
        have hC' := Lib.hid hC
        have bT' := Lib.hid bT
        have n1 : 0 < nA := by omega
        clear hE hmem ht hfn hfl hx hfx hC bT hx3
        go_wp2_with fail
        (with_reducible refine hC'.out.mono ?_)
        rintro e w3 ⟨rfl, hE3, hK3⟩
        have bT3 := bT'.out.keeps hK3 (fun h => by omega)
        obtain ⟨p3, c3, bB3, o3⟩ := hE3.at_
        have hP1 := putText_calls _ x3 tf w3.drew (o3.bytes.later ((Below.refl _ _).drew)) (by simp only [List.length_append] at hlx; omega) s1
        obtain ⟨X3, hX3⟩ : ∃ X3, x3.length = X3 := ⟨_, rfl⟩
        rw [hX3] at bB3 hP1 o3
        have hS0 : w3.cell? ⟨bb, 0, none⟩ = some (.slice p3 X3 c3) ∧ ∀ i, w3.cell? ⟨wo.heap.size, i, none⟩ = (#[.int .i64 tn, .int .i64 tl, .int .i64 tz, .string tf, .string ta] : Array Value)[i]? := ⟨by rw [bB3.cell]; rfl, bT3.cell⟩
        have hE3' := Lib.hid hE3
        have hP1' := Lib.hid hP1
        have bB3' := Lib.hid bB3
        have bT3' := Lib.hid bT3
        clear hE3 hP1 bB3 bT3 bT' hK3 hX3 q0 q1 q2 q3 q4 hC' o3
        go_wp2_with fail
        refine wp_region_s (fun w' => w'.cell? ⟨bb, 0, none⟩ = some (.slice p3 X3 c3) ∧ ∀ i, w'.cell? ⟨wo.heap.size, i, none⟩ = (#[.int .i64 tn, .int .i64 tl, .int .i64 tz, .string tf, .string ta] : Array Value)[i]?) [7] [(true, 0), (true, 1), (true, 2), (true, 4), (true, 5), (false, 3), (false, 6), (false, 7)] (by kernel_rfl) (by kernel_rfl) (by kernel_rfl) (by kernel_rfl) (fun _ _ _ _ _ h => h) hS0 ?_
        repeat
          refine wpS_take (v := ?_) rfl (.inl ⟨by rfl, fun w' hS => ?_⟩) ?_
          rotate_left
          · (try dsimp only at hS); go_simp; try with_reducible rfl
          simp only [Act.put, List.setIfInBounds_toArray, List.set_cons_zero, List.set_cons_succ]
        refine wpS_go rfl ?_
        go_wp2_with fail
        (with_reducible refine hP1'.out.mono ?_)
        rintro e w4 ⟨p4, c4, rfl, o4, b4⟩
        have hb4 := (Below.refl w3.heap.size w3).drew.trans b4
        have hP2 := putText_calls _ _ ta w4 o4.bytes (by simp only [List.length_append] at hlx ⊢; omega) s2
        have bB4 := bB3'.out.below hb4 bB3'.out.lt
        have bT4 := bT3'.out.below hb4 bT3'.out.lt
        have hS4 : w4.cell? ⟨bb, 0, none⟩ = some (.slice p3 X3 c3) ∧ ∀ i, w4.cell? ⟨wo.heap.size, i, none⟩ = (#[.int .i64 tn, .int .i64 tl, .int .i64 tz, .string tf, .string ta] : Array Value)[i]? := ⟨by rw [bB4.cell]; rfl, bT4.cell⟩
        obtain ⟨X4, hX4⟩ : ∃ X4, (x3 ++ utx tf).length = X4 := ⟨_, rfl⟩
        rw [hX4] at hP2 ⊢
        have hP2' := Lib.hid hP2
        have hb4' := Lib.hid hb4
        have bB4' := Lib.hid bB4
        have bT4' := Lib.hid bT4
        clear hP2 b4 hb4 bB4 bT4 o4 hX4 hS0 hP1'
        go_wp2_with fail
        refine ⟨fun _ => hS4, ?_⟩
        refine wpS_go rfl ?_
        go_wp2_with fail
        (with_reducible refine hP2'.out.mono ?_)
        rintro e w5 ⟨p5, c5, rfl, o5, b5⟩
        obtain ⟨X5, hX5⟩ : ∃ X5, (x3 ++ utx tf ++ utx ta).length = X5 := ⟨_, rfl⟩
        rw [hX5] at o5 ⊢
        have hE5 := hE3'.out.put (hb4'.out.trans (b5.mono hb4'.out.size)) hX5.symm (o5.mono hb4'.out.size)
        have bB5 := bB4'.out.below b5 bB4'.out.lt
        have bT5 := bT4'.out.below b5 bT4'.out.lt
        have hS5 : w5.cell? ⟨bb, 0, none⟩ = some (.slice p3 X3 c3) ∧ ∀ i, w5.cell? ⟨wo.heap.size, i, none⟩ = (#[.int .i64 tn, .int .i64 tl, .int .i64 tz, .string tf, .string ta] : Array Value)[i]? := ⟨by rw [bB5.cell]; rfl, bT5.cell⟩
        have fB5 := bB5.frozen
        have cB5 := bB5.cell
        have hE5' := Lib.hid hE5
        clear hE5 b5 o5 hX5 bB5 bT5 hS4 hP2'
        go_wp2_with fail
        refine ⟨fun _ => hS5, ?_⟩
        refine wpS_go rfl ?_
        go_wp2_with fail
        refine ⟨fun h => absurd h (by decide), ?_⟩
        refine wpS_end ?_
        go_wp2_with fail
        exact ⟨⟨k + 1, by rw [Int.natCast_add]; rfl, by omega, by rw [hfx'.out]; exact hE5'.out⟩, by simp only [intOf]; omega⟩
      · obtain rfl : k = nA := by omega
        rw [← hnA'.out, List.take_length, hnA'.out] at hE
        obtain ⟨⟨l1, l2⟩, ⟨m1, m2⟩, hdr⟩ := rest_right hr'.out
        simp only at l1 l2 m1 m2 hdr
        have hXB := hbytes.out
        rw [hnA'.out, hnD'.out] at hXB
        have hlX : (uv k ++ add.flatMap Tbl.bytes ++ uv nD ++ drop.flatMap uvI ++ uv fl ++ uv hd ++ uvI lg ++ uvI nx).length ≤ 10000000 := by rw [← hXB]; exact hl
        obtain ⟨x0, hx0⟩ : ∃ x0, uv k ++ add.flatMap Tbl.bytes = x0 := ⟨_, rfl⟩
        rw [hx0] at hE hlX hXB
        have hXB' := Lib.hid hXB
        have hnle : drop.length ≤ 1000000 := by rw [hnD'.out]; exact h2
        have bW := bE1'.out.keeps hE.keep (fun h => hne h)
        have cE2 := bW.cell
        have hC := enc1_new _ _ w.heap.size bb _ x0 [(nD : Int)] 1 #[.int .i64 nD] hE rfl rfl rfl (by simp; omega) (by omega) (by simp only [List.length_append] at hlX; simp [uvI]; omega)
        rw [show [(nD : Int)].flatMap uvI = uv nD from by simp [uvI]] at hC
        have hC' := Lib.hid hC
        clear hE hC hXB hx0 hl bW hr' hR' ht' h3' h4' hbytes hnA'
        go_wp2_with fail
        (with_reducible refine hC'.out.mono ?_)
        rintro e w3 ⟨rfl, hE3, hK3⟩
        have bW3 := bE1'.out.keeps hE3.keep (fun h => hne h)
        have cE3 := bW3.cell
        obtain ⟨_, hD3, hD4⟩ := hAt'.out _ hE3.keep
        have hC3 := enc1_calls w1 w3 w.heap.size bb (x0 ++ uv nD) pd cd drop hE3 hD3 hD4 hdr hnle (by simp only [List.length_append] at hlX ⊢; omega)
        rw [hnD'.out] at hC3
        have hC3' := Lib.hid hC3
        clear hE3 hK3 hC3 bW3 hD3 hD4 hC' cE2
        go_wp2_with fail
        (with_reducible refine hC3'.out.mono ?_)
        rintro e w4 ⟨rfl, hE4, hK4⟩
        have bW4 := bE1'.out.keeps hE4.keep (fun h => hne h)
        obtain ⟨x4, hx4⟩ : ∃ x4, x0 ++ uv nD ++ drop.flatMap uvI = x4 := ⟨_, rfl⟩
        rw [hx4] at hE4 hXB' hlX
        obtain ⟨p4, c4, bB4, o4⟩ := hE4.at_
        have hP1 := put_calls _ x4 fl w4.drew (o4.bytes.later ((Below.refl _ _).drew)) (by simp only [List.length_append] at hlX; omega) h5
        obtain ⟨X4, hX4⟩ : ∃ X4, x4.length = X4 := ⟨_, rfl⟩
        rw [hX4] at bB4 hP1 o4
        have hS0 : w4.cell? ⟨bb, 0, none⟩ = some (.slice p4 X4 c4) ∧ ∀ i, w4.cell? ⟨w.heap.size, i, none⟩ = (#[.slice pa k ca, .slice pd nD cd, .int .u64 fl, .int .u64 hd, .int .i64 lg, .int .i64 nx] : Array Value)[i]? := ⟨by rw [bB4.cell]; rfl, bW4.cell⟩
        have hE4' := Lib.hid hE4
        have hP1' := Lib.hid hP1
        have bB4' := Lib.hid bB4
        have bW4' := Lib.hid bW4
        clear hE4 hP1 bB4 bW4 hK4 hX4 hC3' cE3 o4 hx4 hdr
        go_wp2_with fail
        refine wp_region_s (fun w' => w'.cell? ⟨bb, 0, none⟩ = some (.slice p4 X4 c4) ∧ ∀ i, w'.cell? ⟨w.heap.size, i, none⟩ = (#[.slice pa k ca, .slice pd nD cd, .int .u64 fl, .int .u64 hd, .int .i64 lg, .int .i64 nx] : Array Value)[i]?) [7] [(true, 0), (true, 1), (true, 2), (true, 4), (true, 5), (false, 3), (false, 6), (false, 7)] (by kernel_rfl) (by kernel_rfl) (by kernel_rfl) (by kernel_rfl) (fun _ _ _ _ _ h => h) hS0 ?_
        repeat
          refine wpS_take (v := ?_) rfl (.inl ⟨by rfl, fun w' hS => ?_⟩) ?_
          rotate_left
          · (try dsimp only at hS); go_simp; try with_reducible rfl
          simp only [Act.put, List.setIfInBounds_toArray, List.set_cons_zero, List.set_cons_succ]
        refine wpS_go rfl ?_
        go_wp2_with fail
        (with_reducible refine hP1'.out.mono ?_)
        rintro e w5 ⟨p5, c5, rfl, o5, b5⟩
        have hb5 := (Below.refl w4.heap.size w4).drew.trans b5
        have hP2 := put_calls _ _ hd w5 o5.bytes (by simp only [List.length_append] at hlX ⊢; omega) h6
        have bB5 := bB4'.out.below hb5 bB4'.out.lt
        have bW5 := bW4'.out.below hb5 bW4'.out.lt
        have hS5 : w5.cell? ⟨bb, 0, none⟩ = some (.slice p4 X4 c4) ∧ ∀ i, w5.cell? ⟨w.heap.size, i, none⟩ = (#[.slice pa k ca, .slice pd nD cd, .int .u64 fl, .int .u64 hd, .int .i64 lg, .int .i64 nx] : Array Value)[i]? := ⟨by rw [bB5.cell]; rfl, bW5.cell⟩
        obtain ⟨X5, hX5⟩ : ∃ X5, (x4 ++ uv fl).length = X5 := ⟨_, rfl⟩
        rw [hX5] at hP2 ⊢
        have hP2' := Lib.hid hP2
        have hb5' := Lib.hid hb5
        have bB5' := Lib.hid bB5
        have bW5' := Lib.hid bW5
        clear hP2 b5 hb5 bB5 bW5 o5 hX5 hS0 hP1'
        go_wp2_with fail
        refine ⟨fun _ => hS5, ?_⟩
        refine wpS_go rfl ?_
        go_wp2_with fail
        (with_reducible refine hP2'.out.mono ?_)
        rintro e w6 ⟨p6, c6, rfl, o6, b6⟩
        obtain ⟨X6, hX6⟩ : ∃ X6, (x4 ++ uv fl ++ uv hd).length = X6 := ⟨_, rfl⟩
        rw [hX6] at o6 ⊢
        have hE6 := hE4'.out.put (hb5'.out.trans (b6.mono hb5'.out.size)) hX6.symm (o6.mono hb5'.out.size)
        have bB6 := bB5'.out.below b6 bB5'.out.lt
        have bW6 := bW5'.out.below b6 bW5'.out.lt
        have hS6 : w6.cell? ⟨bb, 0, none⟩ = some (.slice p4 X4 c4) ∧ ∀ i, w6.cell? ⟨w.heap.size, i, none⟩ = (#[.slice pa k ca, .slice pd nD cd, .int .u64 fl, .int .u64 hd, .int .i64 lg, .int .i64 nx] : Array Value)[i]? := ⟨by rw [bB6.cell]; rfl, bW6.cell⟩
        have fB6 := bB6.frozen
        have cB6 := bB6.cell
        have hE6' := Lib.hid hE6
        clear hE6 b6 o6 hX6 bB6 bW6 hS5 hP2'
        go_wp2_with fail
        refine ⟨fun _ => hS6, ?_⟩
        refine wpS_go rfl ?_
        go_wp2_with fail
        refine ⟨fun h => absurd h (by decide), ?_⟩
        refine wpS_end ?_
        obtain ⟨w7, hw7⟩ : ∃ w7, w6.setCell ⟨bb, 0, none⟩ (.slice p6 X6 c6) = w7 := ⟨_, rfl⟩
        rw [hw7] at hE6' ⊢
        have bW7 := bE1'.out.keeps hE6'.out.keep (fun h => hne h)
        have cE7 := bW7.cell
        have hC7 := enc1_new _ _ w.heap.size bb _ _ [lg, nx] 2 #[.int .i64 lg, .int .i64 nx] hE6'.out rfl rfl rfl (by intro n hn; simp at hn; rcases hn with rfl | rfl <;> exact ⟨by assumption, by assumption⟩) (by omega) (by simp only [List.length_append] at hlX; simp; omega)
        have hfin : x4 ++ uv fl ++ uv hd ++ [lg, nx].flatMap uvI = XB := by rw [hXB'.out]; simp
        rw [hfin] at hC7
        have hC7' := Lib.hid hC7
        clear hw7 hC7 bW7 hE6' hS6 fB6 cB6 hfin
        go_wp2_with fail
        (with_reducible refine hC7'.out.mono ?_)
        rintro e w8 ⟨rfl, hE8, hK8⟩
        have hbf : Below w.heap.size w w8 := hwb'.out.trans (hE8.keep.below (fun j _ e => by omega) hwb'.out.size)
        obtain ⟨p8, c8, bB8, o8⟩ := hE8.at_
        have cB8 := bB8.cell
        have hbf' := Lib.hid hbf
        have o8' := Lib.hid o8
        clear hE8 hK8 bB8 o8 hbf hC7'
        go_wp2_with fail
        go_ret2
        exact ⟨hbf'.out, .inr ⟨by first | rfl | trivial, p8, c8, rfl, o8'.out⟩⟩
end Go.Proofs.YtabcdodjkfknlaaGreatDoor
namespace Go.Proofs.YtabcdodjkfknlaaGreatDoor
open Go.RowKit
theorem RowK.At.cell {α : Type} {P : Program} {r : RowK α} (ok : r.Ok P) {w : World} {a : Addr} {l : List α} (h : r.At w (some a) l) (j : Nat) (u : Value) (hj : (r.cells l)[j]? = some u) : w.cell? (a.add j) = some u := by
  have hlt := (List.getElem?_eq_some_iff.1 hj).1
  rw [ok.cells_len] at hlt
  have hK := ok.pos
  have hk : j / r.K < l.length := Nat.div_lt_of_lt_mul (by rw [Nat.mul_comm]; exact hlt)
  have hi : j % r.K < r.K := Nat.mod_lt _ hK
  have hj2 : j / r.K * r.K + j % r.K = j := by rw [Nat.mul_comm]; exact Nat.div_add_mod _ _
  obtain ⟨t, ht⟩ : ∃ t, l[j / r.K]? = some t := ⟨_, List.getElem?_eq_getElem hk⟩
  have := ok.cells_at l _ _ t ht hi
  rw [hj2, hj] at this
  obtain ⟨a', e, _, hc⟩ := h _ t ht
  obtain rfl := Option.some.inj e
  have := hc _ u this.symm
  rwa [hj2] at this
theorem RowK.At.lt0 {α : Type} {r : RowK α} {w : World} {a : Addr} {l : List α} (h : r.At w (some a) l) : l.length = 0 ∨ a.block < w.heap.size := by
  rcases l with _ | ⟨x, l⟩
  · exact .inl rfl
  · obtain ⟨a', e, h2, _⟩ := h 0 x rfl
    obtain rfl := Option.some.inj e
    exact .inr h2
theorem RowK.At.none {α : Type} {r : RowK α} {w : World} {l : List α} (h : r.At w none l) : l = [] := by
  rcases l with _ | ⟨x, l⟩
  · rfl
  · obtain ⟨a', e, _⟩ := h 0 x rfl
    cases e
theorem eqlT0 (n c : Nat) (W : World) : (binOp .eql 27 (.slice none n c) (.slice none 0 0)).run Tryz.prog W = .ok (.bool true) W := by kernel_rfl
theorem eqlT1 (a : Addr) (n c : Nat) (W : World) : (binOp .eql 27 (.slice (some a) n c) (.slice none 0 0)).run Tryz.prog W = .ok (.bool false) W := by kernel_rfl
attribute [local go_sem ↓] dapp_op dslK_op
attribute [local go_sem] Oper.semAt_some
set_option maxHeartbeats 1000000 in
set_option maxRecDepth 100000 in
theorem cloneT_calls (p : Option Addr) (c : Nat) (l : List Tbl) (w : World) (h : rkT.At w p l) (hl : l.length ≤ 400000) :
    Calls Tryz.prog 42 #[.slice p l.length c] w fun e w' => ∃ p' c', e = .returned (.slice p' l.length c') ∧ rkT.Own w.heap.size w' (.slice p' l.length c') l ∧ Below w.heap.size w w' := by
  rcases p with _ | a
  · obtain rfl := h.none
    have e0 := eqlT0 0 c
    clear h
    show Calls _ _ #[.slice none 0 c] _ _
    go_enter Tryz.func42, Tryz.ntmps42
    go_wp2
    go_ret
    exact ⟨none, 0, rfl, RowK.Own.nil _ _ _, Below.refl _ _⟩
  · have hcan := RowK.can_row rkT_ok (Wd := w) (a := a) (m := l.length) (c := c) (news := l) rfl hl h.lt0 (h.cell rkT_ok)
    have e1 := fun W => eqlT1 a l.length c W
    have bN := Blk.new w 76 #[]
    have hA := (Below.refl w.heap.size w).alloc (Nat.le_refl _) (.cells #[] 76)
    have hO : rkT.Own w.heap.size (w.alloc (.cells #[] 76)) (.slice (some ⟨w.heap.size, 0, none⟩) 0 0) [] := ⟨rfl, .inr ⟨w.heap.size, 0, #[], rfl, Nat.le_refl _, bN, Nat.le_refl _, by unfold maxLen; omega, rfl, rfl⟩⟩
    obtain ⟨p1, c1, w1, ea, o1, k1, _⟩ := hcan _ hA w.heap.size _ [] (Nat.le_refl _) (by simp) hO
    have hb := hA.trans (k1.below (fun j _ e => (hO.lt j e).1) hA.size)
    rw [List.length_nil, Nat.zero_add, List.nil_append] at o1
    rw [List.length_nil, Nat.zero_add] at ea
    have ea' : (dappOp #[27, 27] 27 #[.slice (some ⟨w.heap.size, 0, none⟩) 0 0, .slice (some a) l.length c]).run Tryz.prog (w.alloc (.cells #[] 76)) = .ok (.slice p1 l.length c1) w1 := ea
    have o1' := Lib.hid o1
    have hb' := Lib.hid hb
    clear o1 hb hO hA bN k1 h hcan ea
    obtain ⟨L, hL⟩ : ∃ L, l.length = L := ⟨_, rfl⟩
    rw [hL] at hl ea' e1 o1' ⊢
    clear hL
    go_enter Tryz.func42, Tryz.ntmps42
    go_wp2
    go_ret
    exact ⟨p1, c1, rfl, o1'.out, hb'.out⟩
end Go.Proofs.YtabcdodjkfknlaaGreatDoor
namespace Go.Proofs.YtabcdodjkfknlaaGreatDoor
open Go.RowKit
attribute [local go_sem ↓] dapp_op dslK_op
attribute [local go_sem] Oper.semAt_some
set_option maxHeartbeats 2000000 in
set_option maxRecDepth 100000 in
theorem whole_calls (v : Value) (x : Ver) (w : World) (h : VerIs w v x) (hlen : x.tables.length ≤ 400000) :
    Calls Tryz.prog 44 #[v] w fun e w' => ∃ v', e = .returned v' ∧ EdtIs w.heap.size w' v' x.whole ∧ Below w.heap.size w w' := by
  obtain ⟨⟨p, c, rfl, hA⟩, _, _, _⟩ := h
  obtain ⟨l, fl, hd, lg, nx⟩ := x
  simp only at hA hlen ⊢
  obtain ⟨hn, hH⟩ : ∃ n, l.length = n := ⟨_, rfl⟩
  have hA' := Lib.hid hA
  have hH' := Lib.hid hH
  rw [hH] at hlen ⊢
  obtain ⟨W, hW⟩ : ∃ W, ((w.alloc (.cells #[.slice p hn c, .int .u64 fl, .int .u64 hd, .int .i64 lg, .int .i64 nx] 30)).alloc (.cells #[.slice none 0 0, .slice none 0 0, .int .u64 0, .int .u64 0, .int .i64 0, .int .i64 0] 33)) = W := ⟨_, rfl⟩
  have bV : Blk W w.heap.size 30 #[.slice p hn c, .int .u64 fl, .int .u64 hd, .int .i64 lg, .int .i64 nx] := by rw [← hW]; exact (Blk.new w _ _).alloc _
  have bR : Blk W (w.heap.size + 1) 33 #[.slice none 0 0, .slice none 0 0, .int .u64 0, .int .u64 0, .int .i64 0, .int .i64 0] := by rw [← hW]; have := Blk.new (w.alloc (.cells #[.slice p hn c, .int .u64 fl, .int .u64 hd, .int .i64 lg, .int .i64 nx] 30)) 33 #[.slice none 0 0, .slice none 0 0, .int .u64 0, .int .u64 0, .int .i64 0, .int .i64 0]; rw [World.size_alloc] at this; exact this
  have hB : Below w.heap.size w W := by rw [← hW]; exact ((Below.refl _ w).alloc (Nat.le_refl _) _).alloc (by simp) _
  have hC := cloneT_calls p c l W.drew (hA'.out.below hB.drew) (by rw [hH'.out]; exact hlen)
  rw [hH'.out] at hC
  have hRlt := bR.lt
  have hC' := Lib.hid hC
  have hB' := Lib.hid hB
  have bR' := Lib.hid bR
  have bV' := Lib.hid bV
  have hS0 := bV.cell
  clear hH hA hC hB bR bV
  go_enter Tryz.func44, Tryz.ntmps44
  go_wp2
  clear hW
  refine wp_region_s (fun w' => ∀ i, w'.cell? ⟨w.heap.size, i, none⟩ = (#[.slice p hn c, .int .u64 fl, .int .u64 hd, .int .i64 lg, .int .i64 nx] : Array Value)[i]?) [12] [(true, 0), (true, 1), (true, 3), (true, 4), (true, 5), (true, 6), (true, 7), (true, 8), (true, 9), (true, 10), (false, 2), (true, 11), (false, 12)] (by kernel_rfl) (by kernel_rfl) (by kernel_rfl) (by kernel_rfl) (fun _ _ _ _ _ h => h) hS0 ?_
  repeat
    refine wpS_take (v := ?_) rfl (.inl ⟨by rfl, fun w' hS => ?_⟩) ?_
    rotate_left
    · (try dsimp only at hS); go_simp; try with_reducible rfl
    simp only [Act.put, List.setIfInBounds_toArray, List.set_cons_zero, List.set_cons_succ]
  refine wpS_go rfl ?_
  go_wp2_with fail
  (with_reducible refine hC'.out.mono ?_)
  rintro e w1 ⟨p1, c1, rfl, o1, b1⟩
  have hb1 := (Below.refl W.heap.size W).drew.trans b1
  have bV1 := bV'.out.below hb1 bV'.out.lt
  have hS1 := bV1.cell
  have bR1 := Lib.hid (bR'.out.below hb1 bR'.out.lt)
  have hB1 := Lib.hid (hB'.out.trans (hb1.mono hB'.out.size))
  have o1' := Lib.hid o1
  clear hS0 bV1 b1 o1 hC' bR' hb1
  go_wp2_with fail
  refine ⟨fun _ => hS1, ?_⟩
  refine wpS_take (v := ?_) rfl (.inl ⟨by rfl, fun w' hS => ?_⟩) ?_
  rotate_left
  · (try dsimp only at hS); go_simp; try with_reducible rfl
  simp only [Act.put, List.setIfInBounds_toArray, List.set_cons_zero, List.set_cons_succ]
  refine wpS_go rfl ?_
  have cR1 := bR1.out.cell
  have fR1 := bR1.out.frozen
  go_wp2_with fail
  refine ⟨fun h => absurd h (by decide), ?_⟩
  refine wpS_end ?_
  go_wp2_with fail
  obtain ⟨R, hR⟩ : ∃ R, w.heap.size + 1 = R := ⟨_, rfl⟩
  have hRl : R < W.heap.size := by rw [← hR]; exact hRlt
  rw [hR] at bR1 ⊢
  have bF : Blk _ R 33 #[.slice p1 hn c1, .slice none 0 0, .int .u64 fl, .int .u64 hd, .int .i64 lg, .int .i64 nx] := (((((bR1.out.set_ 0 (.slice p1 hn c1)).set_ 1 (.slice none 0 0)).set_ 2 (.int .u64 fl)).set_ 3 (.int .u64 hd)).set_ 4 (.int .i64 lg)).set_ 5 (.int .i64 nx)
  have hK := ((((((Keeps.refl (fun j => j = R) w1).setCell (p := ⟨R, 0, none⟩) (.inl rfl) (.slice p1 hn c1)).setCell (p := ⟨R, 1, none⟩) (.inl rfl) (.slice none 0 0)).setCell (p := ⟨R, 2, none⟩) (.inl rfl) (.int .u64 fl)).setCell (p := ⟨R, 3, none⟩) (.inl rfl) (.int .u64 hd)).setCell (p := ⟨R, 4, none⟩) (.inl rfl) (.int .i64 lg)).setCell (p := ⟨R, 5, none⟩) (.inl rfl) (.int .i64 nx)
  obtain ⟨W6, hW6⟩ : ∃ W6, ((((((w1.setCell ⟨R, 0, none⟩ (.slice p1 hn c1)).setCell ⟨R, 1, none⟩ (.slice none 0 0)).setCell ⟨R, 2, none⟩ (.int .u64 fl)).setCell ⟨R, 3, none⟩ (.int .u64 hd)).setCell ⟨R, 4, none⟩ (.int .i64 lg)).setCell ⟨R, 5, none⟩ (.int .i64 nx)) = W6 := ⟨_, rfl⟩
  rw [hW6] at hK bF ⊢
  have cF := bF.cell
  refine bodyPost_ret (v := .agg #[.slice p1 hn c1, .slice none 0 0, .int .u64 fl, .int .u64 hd, .int .i64 lg, .int .i64 nx]) (by simp [results, Tryz.results44, go_sem, cF]) rfl ?_
  have oF : rkT.Own w.heap.size W6 (.slice p1 hn c1) l := by
    have h1 := o1'.out
    rw [← hH'.out] at h1 ⊢
    exact (h1.keeps hK fun g hg e => by have := (h1.lt g hg).1; have : W.heap.size ≤ g := this; omega).mono (by have := hB'.out.size; exact this)
  exact ⟨_, rfl, ⟨_, _, rfl, oF, RowK.Own.nil _ _ _⟩, hB1.out.trans (hK.below (fun j _ e => by omega) hB1.out.size)⟩
end Go.Proofs.YtabcdodjkfknlaaGreatDoor
namespace Go.Proofs.YtabcdodjkfknlaaGreatDoor
open Go.RowKit Go.Maps
attribute [local go_sem] Oper.semAt_some
def ErrPost (w : World) (c : Int) (e : Ending) (w' : World) : Prop := e = .returned (.int .i64 c) ∧ Below w.heap.size w w'
theorem headOk_eq (x : Ver) : x.headOk = (decide (1 ≤ x.next) && !oddI x.next && decide (0 ≤ x.log) && decide (x.log ≤ x.next) && decide (x.floor ≤ x.head)) := rfl
set_option maxHeartbeats 4000000 in
set_option maxRecDepth 100000 in
theorem check_head (v : Value) (x : Ver) (w : World) (h : VerIs w v x) (hb : x.headOk = false) : Calls Tryz.prog 41 #[v] w (ErrPost w 9) := by
  obtain ⟨⟨p, c, rfl, hA⟩, _, _, n1, n2, n3, n4, n5, n6⟩ := h
  rw [headOk_eq] at hb
  obtain ⟨l, fl, hd, lg, nx⟩ := x
  simp only at hb n1 n2 n3 n4 n5 n6 hA ⊢
  have BB := Lib.hid ((Below.refl w.heap.size w).alloc (Nat.le_refl _) (.cells #[.slice p l.length c, .int .u64 fl, .int .u64 hd, .int .i64 lg, .int .i64 nx] 30))
  have hc := (Blk.new w 30 #[.slice p l.length c, .int .u64 fl, .int .u64 hd, .int .i64 lg, .int .i64 nx]).cell
  have hodd := Lib.hid (fun w => odd_calls nx w n5 n6)
  clear hA
  by_cases t0 : nx < 1
  · clear hb
    go_enter Tryz.func41, Tryz.ntmps41
    go_wp2_with (go_at_call 86; (with_reducible refine (hodd.out _).mono ?_); rintro e w1 ⟨rfl, rfl⟩)
    go_ret
    exact ⟨rfl, BB.out⟩
  generalize ho : oddI nx = o at *
  rcases o with _ | _
  rotate_left
  · clear ho hb
    go_enter Tryz.func41, Tryz.ntmps41
    go_wp2_with (go_at_call 86; (with_reducible refine (hodd.out _).mono ?_); rintro e w1 ⟨rfl, rfl⟩)
    go_ret
    exact ⟨rfl, BB.out⟩
  by_cases t2 : lg < 0
  · clear ho hb
    go_enter Tryz.func41, Tryz.ntmps41
    go_wp2_with (go_at_call 86; (with_reducible refine (hodd.out _).mono ?_); rintro e w1 ⟨rfl, rfl⟩)
    go_ret
    exact ⟨rfl, BB.out⟩
  by_cases t3 : nx < lg
  · clear ho hb
    go_enter Tryz.func41, Tryz.ntmps41
    go_wp2_with (go_at_call 86; (with_reducible refine (hodd.out _).mono ?_); rintro e w1 ⟨rfl, rfl⟩)
    go_ret
    exact ⟨rfl, BB.out⟩
  by_cases t4 : hd < fl
  · clear ho hb
    go_enter Tryz.func41, Tryz.ntmps41
    go_wp2_with (go_at_call 86; (with_reducible refine (hodd.out _).mono ?_); rintro e w1 ⟨rfl, rfl⟩)
    go_ret
    exact ⟨rfl, BB.out⟩
  simp at hb
  omega
end Go.Proofs.YtabcdodjkfknlaaGreatDoor
namespace Go.Proofs.YtabcdodjkfknlaaGreatDoor
open Go.RowKit Go.Maps
attribute [local go_sem] Oper.semAt_some
theorem leB_gtr (a b : ByteArray) : leB a b = !(!Op.bytesLess a.toList b.toList && !(a.toList == b.toList)) := by
  have e1 : Op.bytesLess b.toList a.toList = decide (- Lib.compareBytes a.data.toList b.data.toList = -1) := by
    rw [Lib.toList_data, Lib.toList_data, cb_less, cb_flip a.data.toList b.data.toList]
  unfold leB
  rw [e1]
  rcases cb_three a.data.toList b.data.toList with h | h | h
  · rw [less_n (by rw [h]; decide), eq_y h, h]; rfl
  · rw [less_m h, h]; rfl
  · rw [less_n (by rw [h]; decide), eq_n (by rw [h]; decide), h]; rfl
theorem stepOk_bad {n : Int} {l : List Tbl} {k : Nat} {t : Tbl} (h : l[k]? = some t) (ht : t.ok n = false) : stepOk n l k = false := by
  unfold stepOk; simp only [h, ht, Bool.false_and]
theorem stepOk_zero {n : Int} {l : List Tbl} {t : Tbl} (h : l[0]? = some t) : stepOk n l 0 = t.ok n := by
  unfold stepOk; simp only [h]; simp
theorem stepOk_succ {n : Int} {l : List Tbl} {k : Nat} {t u : Tbl} (h : l[k + 1]? = some t) (hu : l[k]? = some u) : stepOk n l (k + 1) = (t.ok n && pairOk u t) := by
  unfold stepOk; simp only [h, Nat.add_sub_cancel, hu]; simp
theorem Tbl.ok_eq (n : Int) (t : Tbl) : t.ok n = (decide (1 ≤ t.num) && decide (t.num < n) && decide (0 ≤ t.level) && decide (t.level < 4) && decide (1 ≤ t.size) && !oddI t.size && leB t.first t.last) := rfl
set_option maxHeartbeats 8000000 in
set_option maxRecDepth 100000 in
theorem check_tabs (v : Value) (x : Ver) (w : World) (h : VerIs w v x) (hb : x.headOk = true) : Calls Tryz.prog 41 #[v] w (ErrPost w (if x.ok then 0 else 9)) := by
  obtain ⟨⟨p, c, rfl, hA⟩, hlen, hlang, n1, n2, n3, n4, n5, n6⟩ := h
  have hOk : x.ok = true ↔ (∀ i, i < x.tables.length → stepOk x.next x.tables i = true) ∧ (x.tables.map Tbl.num).Nodup := by
    rw [Ver.ok_iff, hb]; simp
  have hb' := hb
  rw [headOk_eq] at hb
  obtain ⟨l, fl, hd, lg, nx⟩ := x
  simp only at hb n1 n2 n3 n4 n5 n6 hA hlen hlang hOk ⊢
  obtain ⟨E, hE⟩ : ∃ E : Int, (if (Ver.mk l fl hd lg nx).ok = true then (0 : Int) else 9) = E := ⟨_, rfl⟩
  have hbad : ∀ i, i < l.length → stepOk nx l i = false → E = 9 := by
    intro i hi hs
    rw [← hE, if_neg]
    rw [hOk]
    rintro ⟨h, _⟩
    rw [h i hi] at hs; cases hs
  have hfin : (∀ i, i < l.length → stepOk nx l i = true) → ∀ n, n ≤ l.length → (n = l.length ↔ (l.map Tbl.num).Nodup) → E = if n < l.length then 9 else 0 := by
    intro hs n hn hd
    rw [← hE]
    by_cases hc : n < l.length
    · rw [if_pos hc, if_neg]
      rw [hOk]; rintro ⟨_, h⟩
      have := hd.2 h; omega
    · rw [if_neg hc, if_pos]
      exact hOk.2 ⟨hs, hd.1 (by omega)⟩
  rw [hE]
  clear hE hOk hb'
  simp only [Bool.and_eq_true, Bool.not_eq_true', decide_eq_true_eq] at hb
  obtain ⟨⟨⟨⟨t0, t1⟩, t2⟩, t3⟩, t4⟩ := hb
  have hodd := Lib.hid (fun w => odd_calls nx w n5 n6)
  rw [t1] at hodd
  have d0 : decide (nx < 1) = false := by simpa using t0
  have d2 : decide (lg < 0) = false := by simpa using t2
  have d3 : decide (nx < lg) = false := by simpa using t3
  have d4 : decide (hd < fl) = false := by simpa using t4
  obtain ⟨g, hg⟩ : ∃ g, w.heap.size = g := ⟨_, rfl⟩
  have bV := (Blk.new w 30 #[.slice p l.length c, .int .u64 fl, .int .u64 hd, .int .i64 lg, .int .i64 nx])
  have B0 := ((Below.refl w.heap.size w).alloc (Nat.le_refl _) (.cells #[.slice p l.length c, .int .u64 fl, .int .u64 hd, .int .i64 lg, .int .i64 nx] 30))
  have sM := SetAt.made (w.alloc (.cells #[.slice p l.length c, .int .u64 fl, .int .u64 hd, .int .i64 lg, .int .i64 nx] 30))
  have bV1 := bV.alloc (.map #[] 0)
  have B1 := Lib.hid (B0.alloc B0.size (.map #[] 0))
  rw [World.size_alloc] at sM
  rw [hg] at bV bV1 sM
  have hc0 := bV.cell
  have hc1 := bV1.cell
  have sM' := Lib.hid sM
  have bV1' := Lib.hid bV1
  have hmm := @run_makeMap Tryz.prog
  have hA' := Lib.hid hA
  have hg' := Lib.hid hg
  have hbad' := Lib.hid hbad
  have hfin' := Lib.hid hfin
  have hlang' := Lib.hid hlang
  obtain ⟨L, hL⟩ : ∃ L, l.length = L := ⟨_, rfl⟩
  rw [hL] at hc0 hc1 bV1' B1 sM' hlen ⊢
  clear bV bV1 B0 sM hA hbad hfin hlang
  have hL' := Lib.hid hL
  clear hL
  go_enter Tryz.func41, Tryz.ntmps41
  go_wp2_with (go_at_call 86; (with_reducible refine (hodd.out _).mono ?_); rintro e w1 ⟨rfl, rfl⟩)
  go_loopw [38] (fun i wr => ∃ (k n : Nat), i = .int .i64 k ∧ k ≤ L ∧ Below w.heap.size w wr ∧ SetAt wr (g + 1) n ((l.take k).map Tbl.num) ∧ Blk wr g 30 #[.slice p L c, .int .u64 fl, .int .u64 hd, .int .i64 lg, .int .i64 nx] ∧ ∀ j, j < k → stepOk nx l j = true) (fun i _ => L - (intOf i).toNat)
  case atStart => exact ⟨0, 0, rfl, Nat.zero_le _, B1.out, sM'.out, bV1'.out, fun j hj => absurd hj (Nat.not_lt_zero _)⟩
  case round =>
    clear hc0 hc1 B1 sM' bV1' hodd hmm
    obtain ⟨k, n, rfl, hk, hB, hS, hV, hst⟩ := hrel
    by_cases hlt : k < L
    · obtain ⟨t, ht⟩ : ∃ t, l[k]? = some t := ⟨_, List.getElem?_eq_getElem (by rw [hL'.out]; exact hlt)⟩
      obtain ⟨a, b, rfl, hab, hbl, q0, q1, q2, q3, q4⟩ := tbl_at (hA'.out.below hB) ht
      obtain ⟨g1, g2, g3, g4, g5, g6⟩ := hlang'.out t (List.mem_of_getElem? ht)
      have hTok := Tbl.ok_eq nx t
      have htake : (l.take (k + 1)).map Tbl.num = (l.take k).map Tbl.num ++ [t.num] := by
        obtain ⟨h1, h2⟩ := List.getElem?_eq_some_iff.1 ht
        rw [List.take_succ_eq_append_getElem h1, h2, List.map_append]; rfl
      have hlen2 : ((l.take k).map Tbl.num).length ≤ 1000000 := by rw [List.length_map, List.length_take]; omega
      obtain ⟨tn, tl, tz, tf, ta⟩ := t
      simp only at g1 g2 g3 g4 g5 g6 q0 q1 q2 q3 q4 hTok htake
      have hA1 := (Below.refl wr.heap.size wr).alloc (Nat.le_refl _) (.cells #[.int .i64 tn, .int .i64 tl, .int .i64 tz, .string tf, .string ta] 76)
      have bT := Blk.new wr 76 #[.int .i64 tn, .int .i64 tl, .int .i64 tz, .string tf, .string ta]
      have hml := hS.1.lt
      obtain ⟨w2, n2, hr, hS2, hk2⟩ := (hS.later hA1).put g1 g2 hlen2
      rw [← htake] at hS2
      have bT2 := bT.keeps hk2 (by show wr.heap.size ≠ g + 1; omega)
      have hgm : g ≠ g + 1 := by omega
      have bV2 := (hV.below hA1 hV.lt).keeps hk2 hgm
      have hB2 : Below w.heap.size w w2 := Keeps.below_step (hB.alloc hB.size _) (hB.alloc hB.size _).size hk2 (fun j e => by rw [hg'.out]; omega)
      have vc := bV2.cell
      have tc := bT2.cell
      have hoz := Lib.hid (fun w => odd_calls tz w g5 g6)
      have hS2' := Lib.hid hS2
      have bT2' := Lib.hid bT2
      have bV2' := Lib.hid bV2
      have hB2' := Lib.hid hB2
      have hst' := Lib.hid hst
      have ht' := Lib.hid ht
      have h9 : (Tbl.mk tn tl tz tf ta).ok nx = false → ErrPost w E (.returned (.int .i64 9)) w2 := fun h => ⟨by rw [hbad'.out k (by rw [hL'.out]; exact hlt) (stepOk_bad ht h)], hB2⟩
      have hcl : k < wr.heap.size ∨ True := .inr trivial
      have hVc := hV.cell
      clear hst ht hB hS hV hA1 bT bT2 bV2 hB2 hS2 hk2 htake hlen2 hcl
      by_cases s0 : tn < 1
      · have hP := Lib.hid (h9 (by rw [hTok]; simp; omega))
        clear h9 hTok
        go_wp2_with (go_at_call 86; (with_reducible refine (hoz.out _).mono ?_); rintro e w1 ⟨rfl, rfl⟩)
        go_ret
        exact hP.out
      by_cases s1 : nx ≤ tn
      · have hP := Lib.hid (h9 (by rw [hTok]; simp; omega))
        clear h9 hTok
        go_wp2_with (go_at_call 86; (with_reducible refine (hoz.out _).mono ?_); rintro e w1 ⟨rfl, rfl⟩)
        go_ret
        exact hP.out
      by_cases s2 : tl < 0
      · have hP := Lib.hid (h9 (by rw [hTok]; simp; omega))
        clear h9 hTok
        go_wp2_with (go_at_call 86; (with_reducible refine (hoz.out _).mono ?_); rintro e w1 ⟨rfl, rfl⟩)
        go_ret
        exact hP.out
      by_cases s3 : 4 ≤ tl
      · have hP := Lib.hid (h9 (by rw [hTok]; simp; omega))
        clear h9 hTok
        go_wp2_with (go_at_call 86; (with_reducible refine (hoz.out _).mono ?_); rintro e w1 ⟨rfl, rfl⟩)
        go_ret
        exact hP.out
      by_cases s4 : tz < 1
      · have hP := Lib.hid (h9 (by rw [hTok]; simp; omega))
        clear h9 hTok
        go_wp2_with (go_at_call 86; (with_reducible refine (hoz.out _).mono ?_); rintro e w1 ⟨rfl, rfl⟩)
        go_ret
        exact hP.out
      generalize ho : oddI tz = o at *
      rcases o with _ | _
      rotate_left
      · have hP := Lib.hid (h9 (by rw [hTok]; simp))
        clear h9 hTok ho
        go_wp2_with (go_at_call 86; (with_reducible refine (hoz.out _).mono ?_); rintro e w1 ⟨rfl, rfl⟩)
        go_ret
        exact hP.out
      have hle := leB_gtr tf ta
      rw [hle] at hTok
      clear hle
      cases hs : (!Op.bytesLess tf.toList ta.toList && !(tf.toList == ta.toList))
      rotate_left
      · have hP := Lib.hid (h9 (by rw [hTok, hs]; simp))
        clear h9 hTok
        go_wp2_with (go_at_call 86; (with_reducible refine (hoz.out _).mono ?_); rintro e w1 ⟨rfl, rfl⟩)
        go_ret
        exact hP.out
      have hok : (Tbl.mk tn tl tz tf ta).ok nx = true := by
        rw [hTok, hs]
        simp
        omega
      clear h9 hTok ho
      by_cases hk0 : k = 0
      · have z1 : ((k : Int) == 0) = true := by simp [hk0]
        have hst2 : ∀ j, j < k + 1 → stepOk nx l j = true := by
          intro j hj
          by_cases e : j = k
          · subst hk0; rw [e, stepOk_zero ht'.out]; exact hok
          · exact hst'.out j (by omega)
        have hst2' := Lib.hid hst2
        clear hk0 hst2 hok
        go_wp2_with (go_at_call 86; (with_reducible refine (hoz.out _).mono ?_); rintro e w1 ⟨rfl, rfl⟩)
        go_roundw
        case rel => exact ⟨k + 1, n2, by go_num, hlt, hB2'.out, hS2'.out, bV2'.out, hst2'.out⟩
        case measure => simp [intOf]; omega
      · have z1 : ((k : Int) == 0) = false := by simp; omega
        obtain ⟨m, rfl⟩ : ∃ m, k = m + 1 := ⟨k - 1, by omega⟩
        have hcast : (((m + 1 : Nat) : Int)) = (m : Int) + 1 := by omega
        have hsub : (m : Int) + 1 - 1 = (m : Int) := by omega
        obtain ⟨u, hu⟩ : ∃ u, l[m]? = some u := ⟨_, List.getElem?_eq_getElem (by rw [hL'.out]; omega)⟩
        have hlt2 : m < L := by omega
        obtain ⟨a', b', ea, hab', hbl', r0, r1, r2, r3, r4⟩ := tbl_at (hA'.out.below hB2'.out) hu
        obtain rfl : a = a' := Option.some.inj ea
        have hst1 := stepOk_succ (n := nx) ht'.out hu
        rw [hok, Bool.true_and] at hst1
        have hP : pairOk u ⟨tn, tl, tz, tf, ta⟩ = (decide (ordT u ⟨tn, tl, tz, tf, ta⟩ < 0) && !(decide (u.level = tl) && decide (0 < tl) && !ltB u.last tf)) := rfl
        have hO := fun W => order_dr u ⟨tn, tl, tz, tf, ta⟩ W
        obtain ⟨un, ul, uz, uf, ua⟩ := u
        simp only at r0 r1 r2 r3 r4 hP
        simp only [Tbl.v] at hO
        have hA3 := (Below.refl w2.heap.size w2).alloc (Nat.le_refl _) (.cells #[.int .i64 un, .int .i64 ul, .int .i64 uz, .string uf, .string ua] 76)
        have bU := Blk.new w2 76 #[.int .i64 un, .int .i64 ul, .int .i64 uz, .string uf, .string ua]
        have bT3 := bT2'.out.below hA3 bT2'.out.lt
        have bV3 := bV2'.out.below hA3 bV2'.out.lt
        have hS3 := hS2'.out.later hA3
        have hB3 := hB2'.out.alloc hB2'.out.size (.cells #[.int .i64 un, .int .i64 ul, .int .i64 uz, .string uf, .string ua] 76)
        have uc := bU.cell
        have z2 := bT2'.out.lt
        have z3 := bV2'.out.lt
        have hO' := Lib.hid hO
        have hst1' := Lib.hid hst1
        have hP' := Lib.hid hP
        have bU' := Lib.hid bU
        have bT3' := Lib.hid bT3
        have bV3' := Lib.hid bV3
        have hS3' := Lib.hid hS3
        have hB3' := Lib.hid hB3
        generalize ordT ⟨un, ul, uz, uf, ua⟩ ⟨tn, tl, tz, tf, ta⟩ = co at *
        clear hO hst1 hP bU bT3 bV3 hS3 hB3 hu ea hok hk0 hA3
        go_wp2_with (go_at_call 86; (with_reducible refine (hoz.out _).mono ?_); rintro e w1 ⟨rfl, rfl⟩)
        with_reducible refine (hO'.out _).mono ?_
        rintro e w4 ⟨rfl, hB4, _⟩
        have bU4 := bU'.out.below hB4 bU'.out.lt
        have bT4 := bT3'.out.below hB4 bT3'.out.lt
        have bV4 := bV3'.out.below hB4 bV3'.out.lt
        have hS4 := Lib.hid (hS3'.out.later hB4)
        have hB5 := Lib.hid (hB3'.out.trans (hB4.mono hB3'.out.size))
        have uc4 := bU4.cell
        have tc4 := bT4.cell
        have vc4 := bV4.cell
        have bV4' := Lib.hid bV4
        clear uc tc vc hB4 bU4 bT4 bV4 r0 r1 r2 r3 r4 q0 q1 q2 q3 q4 hr hO'
        have hbad2 : pairOk ⟨un, ul, uz, uf, ua⟩ ⟨tn, tl, tz, tf, ta⟩ = false → E = 9 := fun h => hbad'.out (m + 1) (by rw [hL'.out]; exact hlt) (by rw [hst1'.out, h])
        have hgood : pairOk ⟨un, ul, uz, uf, ua⟩ ⟨tn, tl, tz, tf, ta⟩ = true → ∀ j, j < m + 1 + 1 → stepOk nx l j = true := by
          intro h j hj
          by_cases e : j = m + 1
          · rw [e, hst1'.out, h]
          · exact hst'.out j (by omega)
        by_cases s1 : 0 ≤ co
        · have s1' : ¬ co < 0 := by omega
          have h9 := hbad2 (by rw [hP'.out]; simp [s1'])
          subst h9
          clear hgood hbad2
          go_wp2
          go_ret
          exact ⟨rfl, hB5.out⟩
        · have s1' : co < 0 := by omega
          have s1n : decide (0 ≤ co) = false := by simp; omega
          cases s2 : (ul == tl)
          · have s2' : ul ≠ tl := by simpa using s2
            have hst2' := Lib.hid (hgood (by rw [hP'.out]; simp [s1', s2']))
            clear hgood hbad2
            go_wp2
            go_roundw
            case rel => exact ⟨m + 1 + 1, n2, by go_num, hlt, hB5.out, hS4.out, bV4'.out, hst2'.out⟩
            case measure => simp [intOf]; omega
          · have s2' : ul = tl := by simpa using s2
            have s2n := Lib.hid s2'
            by_cases s3 : 0 < tl
            · cases s4 : Op.bytesLess ua.toList tf.toList
              · clear s2'
                have h9 := hbad2 (by rw [hP'.out]; simp [s1', s2n.out, s3, ltB, s4])
                subst h9
                clear hgood hbad2
                go_wp2
                go_ret
                exact ⟨rfl, hB5.out⟩
              · clear s2'
                have hst2' := Lib.hid (hgood (by rw [hP'.out]; simp [s1', s2n.out, s3, ltB, s4]))
                clear hgood hbad2
                go_wp2
                go_roundw
                case rel => exact ⟨m + 1 + 1, n2, by go_num, hlt, hB5.out, hS4.out, bV4'.out, hst2'.out⟩
                case measure => simp [intOf]; omega
            · have s3' : ¬ 0 < tl := s3
              clear s2'
              have hst2' := Lib.hid (hgood (by rw [hP'.out]; simp [s1', s2n.out, s3]))
              clear hgood hbad2
              go_wp2
              go_roundw
              case rel => exact ⟨m + 1 + 1, n2, by go_num, hlt, hB5.out, hS4.out, bV4'.out, hst2'.out⟩
              case measure => simp [intOf]; omega
    · obtain rfl : k = L := by omega
      have hm := fun ty => hS.1.len Tryz.underlying134 ty
      have hvc := hV.cell
      have hE : E = if n < k then 9 else 0 := by
        have e1 : l.take k = l := List.take_of_length_le (Nat.le_of_eq hL'.out)
        have := hS.2
        rw [e1, List.length_map] at this
        have h2 := hfin'.out (fun i hi => hst i (by rw [← hL'.out]; exact hi)) n this.1 this.2
        rw [hL'.out] at h2
        exact h2
      have hB' := Lib.hid hB
      clear hS hV hB hst
      by_cases hn : n < k
      · rw [if_pos hn] at hE
        subst hE
        go_wp2
        go_ret
        exact ⟨rfl, hB'.out⟩
      · rw [if_neg hn] at hE
        subst hE
        go_wp2
        go_ret
        exact ⟨rfl, hB'.out⟩
theorem check_calls (v : Value) (x : Ver) (w : World) (h : VerIs w v x) : Calls Tryz.prog 41 #[v] w (ErrPost w (if x.ok then 0 else 9)) := by
  cases hb : x.headOk with
  | true => exact check_tabs v x w h hb
  | false =>
    have e : x.ok = false := by
      cases ho : x.ok with
      | false => rfl
      | true => rw [(Ver.ok_iff.1 ho).1] at hb; cases hb
    rw [e]
    exact check_head v x w h hb
end Go.Proofs.YtabcdodjkfknlaaGreatDoor
