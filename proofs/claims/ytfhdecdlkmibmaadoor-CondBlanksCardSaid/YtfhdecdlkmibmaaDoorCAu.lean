/- Walk: conditions: a row of parts with a word between. -/
import Derived.Test.YtfhdecdlkmibmaaDoorCAt
namespace Go.Proofs.YtfhdecdlkmibmaaDoor
open Go.RowKit
def RowI (G : Toks → Res) (x : List UInt8) (kind : Int) (w : World) (g O : Nat) (s : ByteArray) (l : Toks) (deep : Int) (k : Nat) (wr : World) : Prop :=
  ∃ acc p c cs m d b, Blk wr O 25 #[.int .i64 kind, .int .i64 0, .string ⟨#[]⟩, .slice p acc.length c] ∧ Own O (w.heap.size + 2) wr (.slice p acc.length c) acc cs ∧ Rd wr g s m d b ∧ Keeps (fun j => j = g) w wr ∧ Blk wr w.heap.size 3 #[.int .i64 kind] ∧ Blk wr (w.heap.size + 1) 25 condZ ∧ m.length ≤ k ∧ m.length ≤ l.length ∧ acc.length + m.length ≤ l.length + 1 ∧
    ((b = false ∧ d = deep ∧ ∃ n, m.length < n ∧ rowL G x kind n acc m = gRow G x kind l) ∨ (b = true ∧ gRow G x kind l = .error (posT m)))
theorem rowL_no {G : Toks → Res} {x : List UInt8} {kind : Int} {n : Nat} {acc : List CT} {m : Toks} (hn : m.length < n) (h : isT m x = false) : rowL G x kind n acc m = .ok (.node kind 0 [] acc, m) := by
  obtain ⟨n, rfl⟩ : ∃ k, n = k + 1 := ⟨n - 1, by omega⟩
  unfold rowL
  rw [if_neg (by rw [h]; decide)]
theorem rowL_ok {G : Toks → Res} {x : List UInt8} {kind : Int} {n : Nat} {acc : List CT} {m q : Toks} {c : CT} (h : isT m x = true) (hG : G m.tail = .ok (c, q)) : rowL G x kind (n + 1) acc m = rowL G x kind n (acc ++ flatC kind c) q := by
  conv => lhs; unfold rowL
  rw [if_pos h, hG]
theorem rowL_err {G : Toks → Res} {x : List UInt8} {kind : Int} {n : Nat} {acc : List CT} {m : Toks} {e : Nat} (h : isT m x = true) (hG : G m.tail = .error e) : rowL G x kind (n + 1) acc m = .error e := by
  conv => lhs; unfold rowL
  rw [if_pos h, hG]
theorem gRow_err {G : Toks → Res} {x : List UInt8} {kind : Int} {l : Toks} {e : Nat} (hG : G l = .error e) : gRow G x kind l = .error e := by unfold gRow; rw [hG]
theorem gRow_one {G : Toks → Res} {x : List UInt8} {kind : Int} {l m : Toks} {c : CT} (hG : G l = .ok (c, m)) (h : isW m x = false) : gRow G x kind l = .ok (c, m) := by
  unfold gRow; rw [hG]
  show (if isW m x then _ else _) = _
  rw [if_neg (by rw [h]; decide)]
theorem gRow_more {G : Toks → Res} {x : List UInt8} {kind : Int} {l m : Toks} {c : CT} (hG : G l = .ok (c, m)) (h : isW m x = true) : gRow G x kind l = rowL G x kind (m.length + 1) (flatC kind c) m := by
  unfold gRow; rw [hG]
  show (if isW m x then _ else _) = _
  rw [if_pos h]
theorem flat_len {kind : Int} {c : CT} {a b : Nat} (h1 : a ≤ b) (h2 : c.parts.length + a ≤ b + 1) : (flatC kind c).length + a ≤ b + 1 := by
  unfold flatC
  by_cases h : c.kind = kind
  · rw [if_pos h]; exact h2
  · rw [if_neg h]
    show 1 + a ≤ _
    omega
set_option maxHeartbeats 4000000 in
set_option maxRecDepth 100000 in
theorem row_calls {w : World} {g : Nat} {s : ByteArray} {l : Toks} {deep : Int} (F : Nat) (hE : ∀ args w, (callFunc F args).run Tryd.prog w = .ok (.enter F args) w) (x : ByteArray) (kind : Int) (G : Toks → Res) (h : Rd w g s l deep false)
    (hone : ∀ m w, Rd w g s m deep false → Calls Tryd.prog F #[.pointer (some ⟨g, 0, none⟩)] w (Told G w g s m deep)) :
    Calls Tryd.prog 24 #[.pointer (some ⟨g, 0, none⟩), .string x, .int .i64 kind, .func (.func F) #[.pointer (some ⟨g, 0, none⟩)] #[]] w (Told (gRow G x.data.toList kind) w g s l deep) := by
  have hgl := h.lt
  have h5 := h.b5
  have hlen := h.len
  have hz0 := alloc_size w (.cells #[.int .i64 kind] 3)
  have hK1 := (Blk.new w 3 #[.int .i64 kind]).alloc (.cells condZ 25)
  have hB1 := Blk.new (w.alloc (.cells #[.int .i64 kind] 3)) 25 condZ
  have hz1 := alloc_size (w.alloc (.cells #[.int .i64 kind] 3)) (.cells condZ 25)
  have hR1 := (h.alloc (.cells #[.int .i64 kind] 3)).alloc (.cells condZ 25)
  have k1 := ((Keeps.refl (fun j => j = g) w).alloc (.cells #[.int .i64 kind] 3)).alloc (.cells condZ 25)
  rw [hz0] at hB1 hz1
  obtain ⟨w1, e1⟩ : ∃ w1, (w.alloc (.cells #[.int .i64 kind] 3)).alloc (.cells condZ 25) = w1 := ⟨_, rfl⟩
  rw [e1] at hK1 hB1 hz1 hR1 k1
  unfold condZ at e1
  have hone' := Lib.hid hone
  have hK1' := Lib.hid hK1
  have hB1' := Lib.hid hB1
  have hz1' := Lib.hid hz1
  have hR1' := Lib.hid hR1
  have k1' := Lib.hid k1
  clear hone h hz0 hK1 hB1 hz1 hR1 k1
  go_enter Tryd.func24, Tryd.ntmps24
  go_wp2_with fail
  clear e1
  refine (hone'.out l w1 hR1'.out).mono ?_
  rintro e w2 ⟨cs, c, m, d, b, rfl, hC, hR2, k2, hml, hmp, hcase⟩
  have hB2 := Lib.hid (hB1'.out.keeps k2 (by omega))
  have hKb2 := Lib.hid (hK1'.out.keeps k2 (Nat.ne_of_gt hgl))
  have hK2 := Lib.hid (k1'.out.trans k2)
  have hC2 := Lib.hid (hC.mono (Q := fun j => w.heap.size + 2 ≤ j) fun j hj _ => by rw [hz1'.out] at hj; exact hj)
  have hR2' := Lib.hid hR2
  have hcase' := Lib.hid hcase
  clear hC k2 hR2 hcase hK1' hB1' hR1' k1'
  obtain ⟨Q, pp, nn, cc, rfl⟩ := hC2.out.open_
  have hA := hB2.out.lt
  have hX3 := Blk.new w2 25 #[.int .i64 c.kind, .int .i64 c.num, .string Q, .slice pp nn cc]
  have k3 := (Keeps.refl (fun _ => False) w2).alloc (.cells #[.int .i64 c.kind, .int .i64 c.num, .string Q, .slice pp nn cc] 25)
  have hz3 := alloc_size w2 (.cells #[.int .i64 c.kind, .int .i64 c.num, .string Q, .slice pp nn cc] 25)
  obtain ⟨w3, e3⟩ : ∃ w3, w2.alloc (.cells #[.int .i64 c.kind, .int .i64 c.num, .string Q, .slice pp nn cc] 25) = w3 := ⟨_, rfl⟩
  rw [e3] at hX3 k3 hz3
  have hR3 := Lib.hid (hR2'.out.same k3)
  have hB3 := Lib.hid (hB2.out.keeps k3 id)
  have hKb3 := Lib.hid (hKb2.out.keeps k3 id)
  have hK3 := Lib.hid (hK2.out.step k3 fun _ e => e.elim)
  have hC3 := Lib.hid ((hC2.out.mono (Q := fun j => w.heap.size + 2 ≤ j ∧ j < w2.heap.size) fun j hj hl => ⟨hj, hl⟩).keeps k3 fun _ _ _ => id)
  have hX3' := Lib.hid hX3
  have hz3' := Lib.hid hz3
  have x0 := Blk.cell hX3
  have xf := Blk.frozen hX3
  have b0 := Blk.cell hB3.out
  have bf := Blk.frozen hB3.out
  unfold condZ at b0
  have kk0 := Blk.cell hKb3.out
  obtain ⟨t, r, rfl⟩ := hR3.out.ex
  obtain ⟨X, hX, gf, gc3, gc6, gc2, gc5⟩ := hR3.out.lead
  have hX' := Lib.hid hX
  clear hB2 hKb2 hK2 hC2 hR2' k3 hz3 hX3 hX
  by_cases h3 : t.sort = 3
  · have s3 : ((t.sort : Int) == 3) = true := by rw [h3]; rfl
    have s3' : ((t.sort : Int) != 3) = false := by rw [h3]; rfl
    by_cases hx : t.text = x.data.toList
    · have t3 : (X.toList == x.toList) = true := by rw [Lib.toList_data, Lib.toList_data, hX'.out, hx]; exact beq_self_eq_true _
      have t3' : (X.toList != x.toList) = false := by rw [Lib.toList_data, Lib.toList_data, hX'.out, hx]; exact bne_self_eq_false _
      cases b with
      | true =>
        have h3' := Lib.hid h3
        have hx' := Lib.hid hx
        clear h3 hx
        go_wp2_with fail
        obtain ⟨W, eW, hBW, hRW, hKW⟩ := put_cond rfl hB3.out hR3.out (Nat.ne_of_lt (by omega)) (Nat.ne_of_lt (by omega)) (.int .i64 c.kind) (.int .i64 c.num) (.string Q) (.slice pp nn cc)
        rw [eW]
        have c5 := hBW.cell
        refine bodyPost_ret (v := .agg #[.int .i64 c.kind, .int .i64 c.num, .string Q, .slice pp nn cc]) (by simp [results, Tryd.results24, go_sem, c5]) rfl ?_
        refine ⟨_, c, t :: r, d, _, rfl, (hC3.out.keeps hKW fun j hj _ e => by omega).mono fun j hj _ => by omega, hRW, hK3.out.step hKW (fun j e => .inr (by omega)), hml, hmp, ?_⟩
        rcases hcase'.out with ⟨q1, q2, q3⟩ | ⟨q1, q2⟩
        · cases q1
        · exact .inr ⟨rfl, gRow_err q2⟩
      | false =>
        obtain ⟨hd, hG⟩ : d = deep ∧ Hid (G l = .ok (c, t :: r)) := by
          rcases hcase'.out with ⟨_, q2, q3⟩ | ⟨q, _⟩
          · exact ⟨q2, Lib.hid q3⟩
          · cases q
        have hd' := hd.symm
        clear hd hcase'
        subst hd'
        have hW : Hid (isW (t :: r) x.data.toList = true) := Lib.hid (by show (t.sort == 3 && t.text == x.data.toList) = true; rw [h3, hx]; simp)
        have h3' := Lib.hid h3
        have hx' := Lib.hid hx
        clear h3 hx
        have k4 := (Keeps.refl (fun _ => False) w3).alloc (.cells #[.int .i64 kind, .int .i64 0, .string ⟨#[]⟩, .slice none 0 0] 25)
        have hO4 := Blk.new w3 25 #[.int .i64 kind, .int .i64 0, .string ⟨#[]⟩, .slice none 0 0]
        have x4 := Blk.cell (hX3'.out.keeps k4 id)
        have x4f := Blk.frozen (hX3'.out.keeps k4 id)
        obtain ⟨w4, e4⟩ : ∃ w4, w3.alloc (.cells #[.int .i64 kind, .int .i64 0, .string ⟨#[]⟩, .slice none 0 0] 25) = w4 := ⟨_, rfl⟩
        rw [e4] at k4 hO4
        obtain ⟨O, eO⟩ : ∃ O, w3.heap.size = O := ⟨_, rfl⟩
        rw [eO] at hO4
        have hz3b := hz3'.out
        have hOB : w.heap.size + 2 ≤ O := by omega
        have hB4 := Lib.hid (hB3.out.keeps k4 id)
        have hKb4 := Lib.hid (hKb3.out.keeps k4 id)
        have hK4 := Lib.hid (hK3.out.step k4 fun _ e => e.elim)
        have hR4 := Lib.hid (hR3.out.same k4)
        have hC4 := Lib.hid ((hC3.out.keeps k4 fun _ _ _ => id).mono (Q := fun j => w.heap.size + 2 ≤ j ∧ j ≠ O ∧ (Value.slice none ([] : List CT).length 0).ownBlock ≠ some j) fun j hj _ => ⟨hj.1, by omega, by simp [Value.ownBlock]⟩)
        have hfl := flat_len (kind := kind) hml hmp
        have hpc : 1 ≤ (t :: r).length := Nat.succ_pos _
        have DP := Lib.hid (put_calls (acc := []) (p := none) (c := 0) hOB hKb4.out hO4 (Own.nil O (w.heap.size + 2) w4) hC4.out (by show 0 + _ ≤ _; omega))
        have e4' := Lib.hid e4
        have eO' := Lib.hid eO
        clear hB3 hKb3 hK3 hR3 hC3 k4 hO4 x0 xf hX3' hz3b e4 eO
        go_wp2_with fail
        rw [e4'.out, eO'.out]
        refine DP.out.mono ?_
        rintro e w5 ⟨rfl, p5, c5, cs5, hO5, own5, k5⟩
        have hR5 := hR4.out.keeps k5 (by omega) (by omega)
        have hB5 := hB4.out.keeps k5 (by omega)
        have hKb5 := hKb4.out.keeps k5 (by omega)
        have hK5 := hK4.out.step k5 fun j hj => .inr (by omega)
        have hstart : Hid (RowI G x.data.toList kind w g O s l deep (t :: r).length w5) := Lib.hid ⟨flatC kind c, p5, c5, cs5, t :: r, deep, false, hO5, own5, hR5, hK5, hKb5, hB5, Nat.le_refl _, hml, hfl, .inl ⟨rfl, rfl, (t :: r).length + 1, Nat.lt_succ_self _, (gRow_more hG.out hW.out).symm⟩⟩
        clear hB4 hKb4 hK4 hR4 hC4 DP hO5 own5 k5 hR5 hB5 hKb5 hK5 x4 x4f gf gc3 gc6 gc2 gc5 kk0 b0 bf
        go_wp2_with fail
        clear e3
        go_loopg [42] ((t :: r).length) (fun k _ wr => RowI G x.data.toList kind w g O s l deep k wr)
        case atStart => exact hstart.out
        case round =>
          clear hstart hml hmp hfl hpc hG hW
          obtain ⟨acc, p, c6, cs, m, d, b, hO, hown, hR, hK, hKb, hB, hk, hml, hmp, hst⟩ := hrel
          have hO' := Lib.hid hO
          have hown' := Lib.hid hown
          have hR' := Lib.hid hR
          have hK' := Lib.hid hK
          have hKb' := Lib.hid hKb
          have hB' := Lib.hid hB
          have hOl := hO.lt
          have o0 := Blk.cell hO
          have of0 := Blk.frozen hO
          have b0 := Blk.cell hB
          have bf0 := Blk.frozen hB
          unfold condZ at b0
          clear hO hown hR hK hKb hB
          by_cases ht : b = false ∧ isT m x.data.toList = true
          · obtain ⟨rfl, ht⟩ := ht
            obtain ⟨hd, n, hn, hG⟩ : d = deep ∧ ∃ n, m.length < n ∧ rowL G x.data.toList kind n acc m = gRow G x.data.toList kind l := by
              rcases hst with ⟨_, e, h⟩ | ⟨e, _⟩
              · exact ⟨e, h⟩
              · cases e
            have hd' := hd.symm
            have hG' := Lib.hid hG
            have D := Lib.hid (take_yes x hR'.out ht)
            have ht' := Lib.hid ht
            have hm3 := isT_len ht
            clear hd hst hG ht
            subst hd'
            go_wp2_with fail
            refine D.out.mono ?_
            rintro e w6 ⟨rfl, hR6, k6⟩
            have hO6 := Lib.hid (hO'.out.keeps k6 (by omega))
            have hown6 := Lib.hid (hown'.out.keeps k6 fun j hj _ _ e => by omega)
            have hK6 := Lib.hid (hK'.out.trans k6)
            have hKb6 := Lib.hid (hKb'.out.keeps k6 (by omega))
            have hB6 := Lib.hid (hB'.out.keeps k6 (by omega))
            have D6 := Lib.hid (hone'.out m.tail w6 hR6)
            have hz6 := k6.size
            clear D hR6 k6 o0 of0 b0 bf0
            go_wp2_with fail
            refine D6.out.mono ?_
            rintro e w7 ⟨cs7, c7, m', d', b', rfl, hC7, hR7, k7, hm1, hm2, hcase⟩
            have hO7 := hO6.out.keeps k7 (by omega)
            have hown7 := hown6.out.keeps k7 fun j hj _ _ e => by omega
            have hK7 := Lib.hid (hK6.out.trans k7)
            have hKb7 := hKb6.out.keeps k7 (by omega)
            have hB7 := Lib.hid (hB6.out.keeps k7 (by omega))
            have hR7' := Lib.hid hR7
            have hcase' := Lib.hid hcase
            have hC7' := hC7.mono (Q := fun j => w.heap.size + 2 ≤ j ∧ j ≠ O ∧ (Value.slice p acc.length c6).ownBlock ≠ some j) fun j hj _ => ⟨by omega, by omega, fun e => by have := (hown6.out.row.lt j e).2; omega⟩
            have hfl := flat_len (kind := kind) hm1 hm2
            have DP := Lib.hid (put_calls hOB hKb7 hO7 hown7 hC7' (by omega))
            obtain ⟨Q7, p7, n7, c77, rfl⟩ := hC7.open_
            have hKb7' := Lib.hid hKb7
            clear hC7 hR7 k7 hcase D6 hO7 hown7 hC7' hKb7 hO6 hown6 hK6 hKb6 hB6
            go_wp2_with fail
            refine DP.out.mono ?_
            rintro e w8 ⟨rfl, p8, c8, cs8, hO8, own8, k8⟩
            have hR8 := Lib.hid (hR7'.out.keeps k8 (by omega) (by omega))
            have hB8 := Lib.hid (hB7.out.keeps k8 (by omega))
            have hKb8 := Lib.hid (hKb7'.out.keeps k8 (by omega))
            have hK8 := Lib.hid (hK7.out.step k8 fun j hj => .inr (by omega))
            have hO8' := Lib.hid hO8
            have own8' := Lib.hid own8
            clear DP hO8 own8 k8
            go_wp2_with fail
            go_roundg (m'.length)
            case measure => omega
            case rel =>
              refine ⟨acc ++ flatC kind c7, p8, c8, cs8, m', d', b', hO8'.out, own8'.out, hR8.out, hK8.out, hKb8.out, hB8.out, Nat.le_refl _, by omega, by rw [List.length_append]; omega, ?_⟩
              obtain ⟨n, rfl⟩ : ∃ k, n = k + 1 := ⟨n - 1, by omega⟩
              have hG2 := hG'.out
              rcases hcase'.out with ⟨q1, q2, q3⟩ | ⟨q1, q2⟩
              · rw [rowL_ok ht'.out q3] at hG2
                exact .inl ⟨q1, q2, n, by omega, hG2⟩
              · rw [rowL_err ht'.out q2] at hG2
                exact .inr ⟨q1, hG2.symm⟩
          · have hcl : Hid (b = true ∨ isT m x.data.toList = false) := by
              cases b with
              | true => exact Lib.hid (.inl rfl)
              | false => exact Lib.hid (.inr (Bool.eq_false_iff.2 fun e => ht ⟨rfl, e⟩))
            have D := Lib.hid (take_no x hR'.out hcl.out)
            have hst' := Lib.hid hst
            clear hst ht
            go_wp2_with fail
            refine D.out.mono ?_
            rintro e w' ⟨rfl, rfl⟩
            go_wp2_with fail
            obtain ⟨W, eW, hBW, hRW, hKW⟩ := put_cond rfl hB'.out hR'.out (Nat.ne_of_lt (by omega)) (Nat.ne_of_lt (by omega)) (.int .i64 kind) (.int .i64 0) (.string ⟨#[]⟩) (.slice p acc.length c6)
            rw [eW]
            have cW := hBW.cell
            refine bodyPost_ret (v := .agg #[.int .i64 kind, .int .i64 0, .string ⟨#[]⟩, .slice p acc.length c6]) (by simp [results, Tryd.results24, go_sem, cW]) rfl ?_
            have hO9 := hown'.out.keeps hKW fun j hj _ _ e => by omega
            refine ⟨_, .node kind 0 [] acc, m, d, b, rfl, .mk (RowAt.of_own hO9.row) (fun j hj => by have := (hO9.row.lt j hj).1; omega) hO9.parts.len (fun i q hi => (hO9.parts.part i q hi).mono fun j hj _ => by omega), hRW, hK'.out.step hKW (fun j e => .inr (by omega)), hml, hmp, ?_⟩
            rcases hst'.out with ⟨q1, q2, n, hn, hG⟩ | q
            · rcases hcl.out with h | h
              · rw [q1] at h; cases h
              · exact .inl ⟨q1, q2, by rw [← hG]; exact rowL_no hn h⟩
            · exact .inr q
    · have t3 : (X.toList == x.toList) = false := by rw [Lib.toList_data, Lib.toList_data, hX'.out]; exact beq_false_of_ne hx
      have t3' : (X.toList != x.toList) = true := by rw [Lib.toList_data, Lib.toList_data, hX'.out]; exact bne_iff_ne.2 hx
      have h3' := Lib.hid h3
      have hx' := Lib.hid hx
      clear h3 hx
      go_wp2_with fail
      obtain ⟨W, eW, hBW, hRW, hKW⟩ := put_cond rfl hB3.out hR3.out (Nat.ne_of_lt (by omega)) (Nat.ne_of_lt (by omega)) (.int .i64 c.kind) (.int .i64 c.num) (.string Q) (.slice pp nn cc)
      rw [eW]
      have c5 := hBW.cell
      refine bodyPost_ret (v := .agg #[.int .i64 c.kind, .int .i64 c.num, .string Q, .slice pp nn cc]) (by simp [results, Tryd.results24, go_sem, c5]) rfl ?_
      refine ⟨_, c, t :: r, d, _, rfl, (hC3.out.keeps hKW fun j hj _ e => by omega).mono fun j hj _ => by omega, hRW, hK3.out.step hKW (fun j e => .inr (by omega)), hml, hmp, ?_⟩
      rcases hcase'.out with ⟨q1, q2, q3⟩ | ⟨q1, q2⟩
      · refine .inl ⟨q1, q2, gRow_one q3 ?_⟩
        show (t.sort == 3 && t.text == x.data.toList) = false
        rw [beq_false_of_ne hx'.out, Bool.and_false]
      · exact .inr ⟨q1, gRow_err q2⟩
  · have s3 : ((t.sort : Int) == 3) = false := by apply beq_false_of_ne; omega
    have s3' : ((t.sort : Int) != 3) = true := by rw [bne_iff_ne]; omega
    have h3' := Lib.hid h3
    clear h3
    go_wp2_with fail
    obtain ⟨W, eW, hBW, hRW, hKW⟩ := put_cond rfl hB3.out hR3.out (Nat.ne_of_lt (by omega)) (Nat.ne_of_lt (by omega)) (.int .i64 c.kind) (.int .i64 c.num) (.string Q) (.slice pp nn cc)
    rw [eW]
    have c5 := hBW.cell
    refine bodyPost_ret (v := .agg #[.int .i64 c.kind, .int .i64 c.num, .string Q, .slice pp nn cc]) (by simp [results, Tryd.results24, go_sem, c5]) rfl ?_
    refine ⟨_, c, t :: r, d, _, rfl, (hC3.out.keeps hKW fun j hj _ e => by omega).mono fun j hj _ => by omega, hRW, hK3.out.step hKW (fun j e => .inr (by omega)), hml, hmp, ?_⟩
    rcases hcase'.out with ⟨q1, q2, q3⟩ | ⟨q1, q2⟩
    · refine .inl ⟨q1, q2, gRow_one q3 ?_⟩
      show (t.sort == 3 && t.text == x.data.toList) = false
      rw [beq_false_of_ne h3'.out, Bool.false_and]
    · exact .inr ⟨q1, gRow_err q2⟩
end Go.Proofs.YtfhdecdlkmibmaaDoor
