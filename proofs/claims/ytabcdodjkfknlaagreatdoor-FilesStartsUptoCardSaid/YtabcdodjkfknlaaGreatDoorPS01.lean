/- Walks: the document's Same of the same names; FilesStarts: what holds at each version. Walk: the law FilesStarts. The law FilesStarts holds for every list of versions, where what it reads is of bulk at most 1048576; its tied card. -/
import Derived.Test.YtabcdodjkfknlaaGreatDoorPT04
import Derived.Test.YtabcdodjkfknlaaGreatDoorPT05
namespace Go.Proofs.YtabcdodjkfknlaaGreatDoor
open Go.RowKit
theorem rowStr_at {w : World} {p : Option Addr} {c : Nat} {l : List (List UInt8)} (h : RowAt w 9 (.slice p l.length c) l.length (l.map encStr)) {k : Nat} (hk : k < l.length) : ∃ (g : Nat) (s : ByteArray), p = some ⟨g, 0, none⟩ ∧ l.length ≤ c ∧ g < w.heap.size ∧ s.data.toList = l[k] ∧ w.cell? ⟨g, k, none⟩ = some (.string s) := by
  obtain ⟨g, c', hv, hc, hl, h⟩ := h.cell (by omega)
  injection hv with e1 _ e2
  refine ⟨g, ⟨l[k].toArray⟩, e1, by omega, hl, by simp, h k _ ?_⟩
  rw [List.getElem?_map, List.getElem?_eq_getElem hk]; rfl
set_option maxHeartbeats 2000000 in
set_option maxRecDepth 100000 in
theorem same11_calls (l : List (List UInt8)) (v1 v2 : Value) (w : World) (h1 : RowAt w 9 v1 l.length (l.map encStr)) (h2 : RowAt w 9 v2 l.length (l.map encStr)) (hl : l.length ≤ 100000) :
    Calls Tryz.prog 25 #[v1, v2] w fun e w' => e = .returned (.bool true) ∧ Below w.heap.size w w' := by
  obtain ⟨p1, c1, rfl⟩ := h1.slice
  obtain ⟨p2, c2, rfl⟩ := h2.slice
  have h1' := Lib.hid h1
  have h2' := Lib.hid h2
  clear h1 h2
  go_enter Tryz.func25, Tryz.ntmps25
  go_wp2_with fail
  go_loopw [5, 13] (fun _ i wr => ∃ k : Nat, k ≤ l.length ∧ i = .int .i64 k ∧ Below w.heap.size w wr) (fun _ i _ => l.length - (intOf i).toNat)
  case atStart => exact ⟨0, Nat.zero_le _, rfl, Below.refl _ _⟩
  case round =>
    obtain ⟨k, hk, rfl, hB⟩ := hrel
    by_cases hlt : k < l.length
    · obtain ⟨g1, s1, rfl, hc1, hg1, e1, q1⟩ := rowStr_at h1'.out hlt
      obtain ⟨g2, s2, rfl, hc2, hg2, e2, q2⟩ := rowStr_at h2'.out hlt
      have es : s1 = s2 := by
        apply ByteArray.ext; apply Array.toList_inj.1; rw [e1, e2]
      subst es
      have q1' := (hB.cell (p := ⟨g1, k, none⟩) hg1).trans q1
      have q2' := (hB.cell (p := ⟨g2, k, none⟩) hg2).trans q2
      have k0 : (0 : Int) ≤ (k : Int) := by omega
      have k1 : (k : Int) < (l.length : Int) := by omega
      have hss : (s1.toList != s1.toList) = false := by simp
      clear e1 e2 q1 q2
      go_wp2_with fail
      go_quiet (fail)
      rename_i nq
      go_wp2_with fail
      go_roundw
      case rel => exact ⟨k + 1, by omega, by go_num, bdrewN hB nq⟩
      case measure => simp [intOf]; omega
    · go_wp2_with fail
      go_ret
      exact ⟨rfl, hB⟩
/-- a version as an element of a slice -/
structure VEl where
  p : Option Addr
  c : Nat
  v : Ver
def VEl.cells (z : VEl) : List Value := [.slice z.p z.v.tables.length z.c, .int .u64 z.v.floor, .int .u64 z.v.head, .int .i64 z.v.log, .int .i64 z.v.next]
def rkV : RowK VEl := ⟨50, 30, 5, VEl.cells⟩
theorem rkV_ok : rkV.Ok Tryz.prog where
  hs := Tryz.underlying50
  info := info_partsK (show (Tryz.prog.info? 30).map (fun i => (i.zero, i.size, i.bytes)) = some (some (.agg #[.slice none 0 0, .int .u64 0, .int .u64 0, .int .i64 0, .int .i64 0]), 5, 56) by kernel_rfl) rfl (by decide)
  size := fun w => Tryz.sizeOf30 w
  pos := by decide
  len := fun _ => rfl
  one := fun a u hu => by simp [rkV, VEl.cells] at hu; rcases hu with rfl | rfl | rfl | rfl | rfl <;> rfl
/-- a disk that is up, with room for more versions -/
structure StInv (r : RD) (k : Nat) : Prop where
  ok : Okd r
  cap : r.cap = 16777216
  used : r.used ≤ k * 14200
  view : ∀ s c, r.view s = some c → c.length ≤ 20000
theorem StInv.start : StInv (RD.new 16777216) 0 := ⟨Okd.new _, rfl, Nat.le_refl _, fun s c h => by cases h⟩
theorem StInv.more {r : RD} {k : Nat} (h : StInv r k) : StInv r (k + 1) := ⟨h.ok, h.cap, Nat.le_trans h.used (Nat.mul_le_mul_right _ (Nat.le_succ k)), h.view⟩
theorem StInv.next {r : RD} {k : Nat} {v : Ver} (h : StInv r k) (hs : Started r v) (hb : v.bulk ≤ 14100) (hn : fname 109 v.next.toNat ≠ []) : StInv (startR r v).1 (k + 1) := by
  have hu := hs.used
  have hu0 := h.used
  refine ⟨hs.ok, hs.cap.trans h.cap, by rw [Nat.succ_mul]; omega, fun s c hc => ?_⟩
  have hnl := (fname_dName rfl hn).2.1
  rw [hs.view] at hc
  by_cases e2 : s = currentL
  · rw [if_pos e2] at hc
    obtain rfl := Option.some.inj hc
    omega
  · rw [if_neg e2] at hc
    by_cases e3 : s = freshL
    · rw [if_pos e3] at hc; cases hc
    · rw [if_neg e3] at hc
      by_cases e1 : s = fname 109 v.next.toNat
      · rw [if_pos e1] at hc
        obtain rfl := Option.some.inj hc
        rw [sealL_len]
        unfold Ver.bulk at hb
        omega
      · rw [if_neg e1] at hc
        exact h.view s c hc
theorem list_view {r : RD} (h : Okd r) (s : List UInt8) : s ∈ r.list ↔ r.view s ≠ none := by
  have e : r.list = r.dir.map Prod.fst := by unfold RD.list; rw [if_neg (by rw [h.up]; simp)]
  rw [e, List.mem_map]
  constructor
  · rintro ⟨n, hn, rfl⟩
    unfold RD.view
    rw [rmem_find h.sd hn]
    simp
  · intro hv
    unfold RD.view at hv
    cases hf : rfind r.dir s with
    | none => rw [hf] at hv; exact absurd rfl hv
    | some i => exact ⟨_, rfind_mem hf, rfl⟩
end Go.Proofs.YtabcdodjkfknlaaGreatDoor
namespace Go.Proofs.YtabcdodjkfknlaaGreatDoor
open Go.RowKit
attribute [local go_sem ↓] dapp_op dslK_op
attribute [local go_sem] Oper.semAt_some
/-- a version among versions that lie somewhere, where the walk looks for it -/
theorem ver_at {w : World} {p : Option Addr} {l : List VEl} (h : rkV.At w p l) {k : Nat} {t : VEl} (ht : l[k]? = some t) :
    ∃ a b : Addr, p = some a ∧ a.add (k * 5) = b ∧ b.block < w.heap.size ∧ w.cell? b = some (.slice t.p t.v.tables.length t.c) ∧ w.cell? ⟨b.block, b.off + 1, none⟩ = some (.int .u64 t.v.floor) ∧ w.cell? ⟨b.block, b.off + 2, none⟩ = some (.int .u64 t.v.head) ∧ w.cell? ⟨b.block, b.off + 3, none⟩ = some (.int .i64 t.v.log) ∧ w.cell? ⟨b.block, b.off + 4, none⟩ = some (.int .i64 t.v.next) := by
  obtain ⟨a, hp, hl, hc⟩ := h k t ht
  have hn : ∀ j u, 0 < j → (VEl.cells t)[j]? = some u → w.cell? ⟨(a.add (k * 5)).block, (a.add (k * 5)).off + j, none⟩ = some u := fun j u h0 hu => by
    have := hc j u hu
    rw [← addr_next h0, addK_add]
    exact this
  refine ⟨a, _, hp, rfl, by rw [addK_blk]; exact hl, ?_, hn 1 _ (by decide) rfl, hn 2 _ (by decide) rfl, hn 3 _ (by decide) rfl, hn 4 _ (by decide) rfl⟩
  have := hc 0 _ (show (VEl.cells t)[0]? = some _ from rfl)
  rw [Nat.add_zero] at this
  exact this
theorem nd_str : notDisk 9 := by unfold notDisk; decide
/-- what a round of FilesStarts begins with -/
structure RndAt (w w0 wr : World) (B D k : Nat) (r : RD) (O : Nat → Prop) : Prop where
  inv : StInv r k
  disk : DAt wr B D O r (6 * k)
  low : B = w0.heap.size
  base : Below w.heap.size w w0
  kept : Below B w0 wr
def StRel (w w0 wr : World) (B D k : Nat) : Prop := ∃ r O, RndAt w w0 wr B D k r O
section
variable {w w0 wr : World} {B D k : Nat} {r : RD} {O : Nat → Prop}
theorem RndAt.below (h : RndAt w w0 wr B D k r O) : Below w.heap.size w wr := h.base.trans (h.kept.mono (by rw [h.low]; exact h.base.size))
theorem RndAt.later {w' : World} (h : RndAt w w0 wr B D k r O) (hb : Below wr.heap.size wr w') : RndAt w w0 w' B D k r O :=
  ⟨h.inv, h.disk.later hb, h.low, h.base, h.kept.trans (hb.mono h.disk.le)⟩
theorem RndAt.at_ (h : RndAt w w0 wr B D k r O) : At w0 wr D r (6 * k) := by
  have h1 := h.disk
  have h2 := h.kept
  rw [h.low] at h1 h2
  exact h1.at_ h2
end
set_option maxHeartbeats 8000000 in
set_option maxRecDepth 100000 in
theorem filesStarts_calls (p : Option Addr) (c : Nat) (els : List VEl) (w : World) (hs : StdF w) (hA : rkV.At w p els) (hv : ∀ z ∈ els, VerArg w z.p z.c z.v) (hl : els.length ≤ 2000000) :
    Calls Tryz.prog 5 #[.slice p els.length c] w (LawTrue w) := by
  have hF := Lib.hid (fixed21_calls w hs)
  have hA0 := Lib.hid hA
  have hv0 := Lib.hid hv
  have hs0 := Lib.hid hs
  obtain ⟨L, hL⟩ : ∃ L, els.length = L := ⟨_, rfl⟩
  rw [hL] at hl ⊢
  have hL' := Lib.hid hL
  clear hL hA hv hs
  by_cases hbig : 10 < L
  · have t1 : 10 < (L : Int) := by omega
    go_enter Tryz.func5, Tryz.ntmps5
    go_wp2_with fail
    refine hF.out.mono ?_
    rintro e w1 ⟨rfl, b1⟩
    have b1' := Lib.hid b1
    clear b1
    go_wp2_with fail
    go_ret
    exact ⟨rfl, b1'.out⟩
  · have t1 : ¬ 10 < (L : Int) := by omega
    go_enter Tryz.func5, Tryz.ntmps5
    go_wp2_with fail
    refine hF.out.mono ?_
    rintro e w1 ⟨rfl, b1⟩
    have b1' := Lib.hid b1
    clear b1 hF
    go_wp2_with fail
    refine (new_at 16777216 w1).mono ?_
    rintro e w2 ⟨rfl, h2⟩
    obtain ⟨D, hD_⟩ : ∃ D, w1.heap.size + 2 = D := ⟨_, rfl⟩
    rw [hD_] at h2 ⊢
    obtain ⟨O0, hDA⟩ := DAt.of_at h2
    have hR0 : StRel w w1 w2 w1.heap.size D 0 := ⟨_, _, StInv.start, hDA, rfl, b1'.out, h2.below⟩
    obtain ⟨B, hB_⟩ : ∃ B, w1.heap.size = B := ⟨_, rfl⟩
    rw [hB_] at hR0
    have hR0' := Lib.hid hR0
    clear hR0 hDA h2 hD_ hB_
    go_wp2_with fail
    go_loopw [5, 6, 7, 9, 10, 11, 12, 13, 14, 15, 16, 25] (fun _ _ _ _ _ _ _ _ _ _ _ i wr => ∃ k : Nat, i = .int .i64 k ∧ k ≤ L ∧ StRel w w1 wr B D k) (fun _ _ _ _ _ _ _ _ _ _ _ i _ => L - (intOf i).toNat)
    case atStart => exact ⟨0, rfl, Nat.zero_le _, hR0'.out⟩
    case round =>
      obtain ⟨k, rfl, hk, r, O, hR⟩ := hrel
      obtain ⟨wo, rfl⟩ : ∃ wo : World, wo = wr := ⟨_, rfl⟩
      clear hR0'
      by_cases hlt : k < L
      · obtain ⟨z, hz⟩ : ∃ z, els[k]? = some z := ⟨_, List.getElem?_eq_getElem (by rw [hL'.out]; exact hlt)⟩
        obtain ⟨a, b, rfl, hab, hbl, q0, q1, q2, q3, q4⟩ := ver_at (hA0.out.below hR.below) hz
        have hzv := hv0.out z (List.mem_of_getElem? hz)
        have n1 : 0 < L := by omega
        obtain ⟨zp, zc, v⟩ := z
        simp only at q0 q1 q2 q3 q4 hzv
        have hzv0 := Lib.hid hzv
        obtain ⟨N, hN⟩ : ∃ N, v.tables.length = N := ⟨_, rfl⟩
        rw [hN] at q0
        have hN' := Lib.hid hN
        obtain ⟨X1, hX1⟩ : ∃ X, wo.alloc (.cells #[.slice zp N zc, .int .u64 v.floor, .int .u64 v.head, .int .i64 v.log, .int .i64 v.next] 30) = X := ⟨_, rfl⟩
        have hA1 : Below wo.heap.size wo X1 := by rw [← hX1]; exact (Below.refl _ wo).alloc (Nat.le_refl _) _
        have bG : Blk X1 wo.heap.size 30 #[.slice zp N zc, .int .u64 v.floor, .int .u64 v.head, .int .i64 v.log, .int .i64 v.next] := by rw [← hX1]; exact Blk.new wo _ _
        obtain ⟨G, hG⟩ : ∃ G, wo.heap.size = G := ⟨_, rfl⟩
        rw [hG] at bG
        have R1 := hR.later hA1
        have hC := few21_calls _ v X1 (hzv.later R1.below).is hzv.slim
        rw [hN] at hC
        obtain ⟨F1, hF1⟩ : ∃ F, v.few = F := ⟨_, rfl⟩
        rw [hF1] at hC
        have hC' := Lib.hid hC
        have hF1' := Lib.hid hF1
        have R1' := Lib.hid R1
        have bG' := Lib.hid bG
        have hX1' := Lib.hid hX1
        clear hC hF1 R1 bG hX1 hzv hR hA1 hN hz
        go_wp2_with fail
        rw [hX1'.out]
        refine hC'.out.mono ?_
        rintro e w3 ⟨rfl, b3⟩
        have R3 := Lib.hid (R1'.out.later b3)
        have bG3 := Lib.hid (bG'.out.below b3 bG'.out.lt)
        clear b3 hC' R1' bG' q0 q1 q2 q3 q4 hab hbl hX1'
        cases F1 with
        | false =>
          go_wp2_with fail
          go_ret
          exact ⟨rfl, R3.out.below⟩
        | true =>
          have hLi := Lib.hid (list_at R3.out.at_ (by omega))
          go_wp2_with fail
          refine hLi.out.mono ?_
          rintro e w4 ⟨v4, rfl, o4, hl4, b4⟩
          have R4 := Lib.hid (R3.out.later b4)
          have bG4 := Lib.hid (bG3.out.below b4 bG3.out.lt)
          obtain ⟨p4, c4, rfl⟩ := own_slice o4
          obtain ⟨M, hM⟩ : ∃ M, r.list.length = M := ⟨_, rfl⟩
          rw [hM] at hl4
          have o4' := Lib.hid o4
          have hM' := Lib.hid hM
          rw [hM]
          clear hM o4 b4 hLi R3 bG3
          obtain ⟨nm, hnm⟩ : ∃ nm, fname 109 v.next.toNat = nm := ⟨_, rfl⟩
          obtain ⟨F, hFe⟩ : ∃ F, (⟨nm.toArray⟩ : ByteArray) = F := ⟨_, rfl⟩
          have hNm : ∀ W, Calls Tryz.prog 12 #[.int .u8 109, .int .i64 v.next] W fun e w' => e = .returned (.string F) ∧ Below W.heap.size W w' := fun W => by
            have := refName_calls 109 v.next W
            rw [hnm, hFe] at this
            exact this
          have hFl : F.data.toList = nm := by rw [← hFe]
          have hNm' := Lib.hid hNm
          have hFl' := Lib.hid hFl
          have hnm' := Lib.hid hnm
          clear hNm hFl hnm hFe
          go_wp2_with fail
          go_loopw [7, 9, 36] (fun x _ i wr => ∃ j : Nat, i = .int .i64 j ∧ j ≤ M ∧ x = .bool ((r.list.take j).any (fun s => s == nm)) ∧ Below w4.heap.size w4 wr) (fun _ _ i _ => M - (intOf i).toNat)
          case atStart => exact ⟨0, rfl, Nat.zero_le _, rfl, Below.refl _ _⟩
          case round =>
            obtain ⟨j, rfl, hj, rfl, hbi⟩ := hrel
            obtain ⟨wi, rfl⟩ : ∃ wi : World, wi = wr := ⟨_, rfl⟩
            obtain ⟨X, hX⟩ : ∃ X, (r.list.take j).any (fun s => s == nm) = X := ⟨_, rfl⟩
            rw [hX]
            have hX' := Lib.hid hX
            have hbi' := Lib.hid hbi
            clear hX hbi
            by_cases hjl : j < M
            · obtain ⟨g1, s1, rfl, hc1, hg1, e1, w1c⟩ := rowStr_at (RowAt.of_own o4'.out) (k := j) (by rw [hM'.out]; exact hjl)
              have e1' : r.list[j]? = some s1.data.toList := by rw [e1]; exact List.getElem?_eq_getElem _
              have q0 := (hbi'.out.cell (p := ⟨g1, j, none⟩) hg1).trans w1c
              have hnx : Hid ((r.list.take (j + 1)).any (fun s => s == nm) = (X || (s1.toList == F.toList))) := Lib.hid (by
                rw [List.take_add_one, e1', List.any_append, hX'.out, Lib.toList_data, Lib.toList_data, hFl'.out]
                simp)
              obtain ⟨Y, hY⟩ : ∃ Y, (s1.toList == F.toList) = Y := ⟨_, rfl⟩
              rw [hY] at hnx
              have bG5 := (bG4.out.below hbi'.out bG4.out.lt).cell
              have n2 : 0 < M := by omega
              clear e1 e1' w1c
              cases X with
              | true =>
                go_wp2_with fail
                go_roundw
                case rel => exact ⟨j + 1, by go_num, by omega, by rw [hnx.out]; rfl, hbi'.out⟩
                case measure => simp [intOf]; omega
              | false =>
                go_wp2_with fail
                refine (hNm'.out wi).mono ?_
                rintro e w5 ⟨rfl, b5⟩
                have b5' := Lib.hid (hbi'.out.trans (b5.mono hbi'.out.size))
                clear b5
                go_wp2_with fail
                go_roundw
                case rel => exact ⟨j + 1, by go_num, by omega, by rw [hnx.out]; rfl, b5'.out⟩
                case measure => simp [intOf]; omega
            · obtain rfl : j = M := by omega
              rw [List.take_of_length_le (Nat.le_of_eq hM'.out)] at hX'
              have R5 := Lib.hid (R4.out.later hbi'.out)
              have bG5 := Lib.hid (bG4.out.below hbi'.out bG4.out.lt)
              have o5 := Lib.hid (RowAt.later (RowAt.of_own o4'.out) hbi'.out)
              clear hbi' R4 bG4 o4'
              have hvA := hzv0.out.later R5.out.below
              have hbulk := bulk_few hF1'.out hvA.is.lang hvA.is.nums
              have hSt := start_calls R5.out.disk hvA.is (hs0.out.next R5.out.below) (by have := few_tables hF1'.out; omega) (by unfold Ver.bulk at hbulk; omega) (few_sizes hF1'.out) (by omega)
              rw [hN'.out] at hSt
              have hSt' := Lib.hid hSt
              have cG5 := bG5.out.cell
              clear hSt hvA
              go_wp2_with fail
              refine hSt'.out.mono ?_
              rintro e w6 ⟨v6, rfl, o6, hG6⟩
              have bG6 := Lib.hid (hG6.blk2 R5.out.disk bG5.out nd_ver)
              have row6 : RowAt w6 9 (.slice p4 j c4) r.list.length (r.list.map encStr) := by
                have h1 := o5.out
                rw [hM'.out] at h1 ⊢
                obtain ⟨_, _, _, hk⟩ := hG6
                exact h1.keeps hk fun g hg => by
                  obtain ⟨cs, hb⟩ := h1.blk g hg
                  exact R5.out.disk.apart hb nd_str
              have kept6 := hG6.base R5.out.disk R5.out.kept (Nat.le_refl _)
              have low6 := R5.out.low
              have base6 := R5.out.base
              have inv6 := R5.out.inv
              obtain ⟨O6, hD6, _, _⟩ := hG6
              have row6' := Lib.hid row6
              have kept6' := Lib.hid kept6
              have low6' := Lib.hid low6
              have base6' := Lib.hid base6
              have inv6' := Lib.hid inv6
              have hD6' := Lib.hid hD6
              have o6' := Lib.hid o6
              clear row6 kept6 low6 base6 inv6 hD6 o6 cG5 hSt' bG5 o5 R5
              by_cases hbad : v.ok = false ∨ nm = []
              · have hst : startR r v = (r, (Ver.zero, 0, 9)) := startR_bad (by rw [hnm'.out]; exact hbad)
                rw [hst] at o6' hD6' ⊢
                obtain ⟨q6, k6, rfl⟩ : ∃ p k, v6 = .agg #[.slice p 0 k, .int .u64 0, .int .u64 0, .int .i64 0, .int .i64 0] := by
                  obtain ⟨p, k, e, _⟩ := o6'.out.agg
                  exact ⟨p, k, e⟩
                obtain ⟨X6, hX6⟩ : ∃ X, w6.alloc (.cells #[.slice q6 0 k6, .int .u64 0, .int .u64 0, .int .i64 0, .int .i64 0] 30) = X := ⟨_, rfl⟩
                have hA6 : Below w6.heap.size w6 X6 := by rw [← hX6]; exact (Below.refl _ w6).alloc (Nat.le_refl _) _
                have R6 : RndAt w w1 X6 B D (k + 1) r O6 := ⟨inv6'.out.more, hD6'.out.later hA6, low6'.out, base6'.out, kept6'.out.trans (hA6.mono hD6'.out.le)⟩
                have R6' := Lib.hid R6
                have row7 := Lib.hid (row6'.out.later hA6)
                have bG7 := Lib.hid (bG6.out.below hA6 bG6.out.lt)
                have hX6' := Lib.hid hX6
                have hck := check16_calls _ v X6 (hzv0.out.later R6.below).is (hzv0.out.later R6.below).capOk
                rw [hN'.out] at hck
                have cG6 := bG6.out.cell
                have lG6 := bG6.out.lt
                have hlist := Lib.hid (fun W (hb : Below X6.heap.size X6 W) => list_at (R6.later hb).at_ (by omega))
                clear hck R6 hA6 hX6 kept6' row6' hD6' o6' bG6
                have fin : ∀ W, Below X6.heap.size X6 W → StRel w w1 W B D (k + 1) := fun W hb => ⟨_, _, R6'.out.later hb⟩
                have fin' := Lib.hid fin
                clear fin
                by_cases hok : v.ok = true
                · have hnm0 : nm = [] := by
                    rcases hbad with h | h
                    · rw [h] at hok; cases hok
                    · exact h
                  have hF0 : F = ⟨#[]⟩ := by
                    apply ByteArray.ext
                    apply Array.toList_inj.1
                    rw [hFl'.out, hnm0]
                  subst hF0
                  have hck : Calls Tryz.prog 15 #[.agg #[.slice zp N zc, .int .u64 v.floor, .int .u64 v.head, .int .i64 v.log, .int .i64 v.next]] X6 (ErrPost X6 0) := by
                    have := check16_calls _ v X6 (hzv0.out.later R6'.out.below).is (hzv0.out.later R6'.out.below).capOk
                    rw [hN'.out, if_pos hok] at this
                    exact this
                  have hck' := Lib.hid hck
                  clear hck hbad hok hnm0
                  go_wp2_with fail
                  rw [hX6'.out]
                  refine hck'.out.mono ?_
                  rintro e w7 ⟨rfl, b7⟩
                  have b7' := Lib.hid b7
                  have cG7 := (bG7.out.below b7 bG7.out.lt).cell
                  clear b7
                  go_wp2_with fail
                  refine (hNm'.out w7).mono ?_
                  rintro e w70 ⟨rfl, b70⟩
                  have b70' := Lib.hid (b7'.out.trans (b70.mono b7'.out.size))
                  clear b70
                  go_wp2_with fail
                  refine (hlist.out w70 b70'.out).mono ?_
                  rintro e w8 ⟨v8, rfl, o8, hl8, b8⟩
                  have b8' := Lib.hid (b70'.out.trans (b8.mono b70'.out.size))
                  have hsm := same11_calls r.list v8 (.slice p4 j c4) w8 (RowAt.of_own o8) (row7.out.later b8'.out) hl8
                  obtain ⟨p8, c8, rfl⟩ := own_slice o8
                  have hsm' := Lib.hid hsm
                  clear hsm o8 b8
                  go_wp2_with fail
                  refine hsm'.out.mono ?_
                  rintro e w9 ⟨rfl, b9⟩
                  have b9' := Lib.hid (b8'.out.trans (b9.mono b8'.out.size))
                  clear b9
                  go_wp2_with fail
                  exact ⟨⟨k + 1, by go_num, by omega, fin'.out w9 b9'.out⟩, by simp only [intOf]; omega⟩
                · have hck : Calls Tryz.prog 15 #[.agg #[.slice zp N zc, .int .u64 v.floor, .int .u64 v.head, .int .i64 v.log, .int .i64 v.next]] X6 (ErrPost X6 9) := by
                    have := check16_calls _ v X6 (hzv0.out.later R6'.out.below).is (hzv0.out.later R6'.out.below).capOk
                    rw [hN'.out, if_neg hok] at this
                    exact this
                  have hck' := Lib.hid hck
                  clear hck hbad
                  go_wp2_with fail
                  rw [hX6'.out]
                  refine hck'.out.mono ?_
                  rintro e w7 ⟨rfl, b7⟩
                  have b7' := Lib.hid b7
                  clear b7
                  go_wp2_with fail
                  refine (hlist.out w7 b7'.out).mono ?_
                  rintro e w8 ⟨v8, rfl, o8, hl8, b8⟩
                  have b8' := Lib.hid (b7'.out.trans (b8.mono b7'.out.size))
                  have hsm := same11_calls r.list v8 (.slice p4 j c4) w8 (RowAt.of_own o8) (row7.out.later b8'.out) hl8
                  obtain ⟨p8, c8, rfl⟩ := own_slice o8
                  have hsm' := Lib.hid hsm
                  clear hsm o8 b8
                  go_wp2_with fail
                  refine hsm'.out.mono ?_
                  rintro e w9 ⟨rfl, b9⟩
                  have b9' := Lib.hid (b8'.out.trans (b9.mono b8'.out.size))
                  clear b9
                  go_wp2_with fail
                  exact ⟨⟨k + 1, by go_num, by omega, fin'.out w9 b9'.out⟩, by simp only [intOf]; omega⟩
              · have hok : v.ok = true := by
                  cases h : v.ok with
                  | true => rfl
                  | false => exact absurd (.inl h) hbad
                have hne : nm ≠ [] := fun h => hbad (.inr h)
                clear hbad
                have hFne : (F.toList == ([] : List UInt8)) = false := by
                  rw [beq_eq_false_iff_ne, Lib.toList_data, hFl'.out]
                  exact hne
                have hfn : fname 109 v.next.toNat ≠ [] := by rw [hnm'.out]; exact hne
                have hnx := (fname_form rfl hfn).2
                have hvw := list_view inv6'.out.ok nm
                cases X with
                | true =>
                  have hmem : r.view nm ≠ none := hvw.1 (by
                    have := hX'.out
                    rw [List.any_eq_true] at this
                    obtain ⟨x, hx, e⟩ := this
                    rw [beq_iff_eq] at e
                    rw [← e]; exact hx)
                  have hst : startR r v = (r, (Ver.zero, 0, 3)) := startR_there inv6'.out.ok hok hfn (by rw [hnm'.out]; exact hmem)
                  rw [hst] at o6' hD6' ⊢
                  obtain ⟨q6, k6, rfl⟩ : ∃ p k, v6 = .agg #[.slice p 0 k, .int .u64 0, .int .u64 0, .int .i64 0, .int .i64 0] := by
                    obtain ⟨p, k, e, _⟩ := o6'.out.agg
                    exact ⟨p, k, e⟩
                  obtain ⟨X6, hX6⟩ : ∃ X, w6.alloc (.cells #[.slice q6 0 k6, .int .u64 0, .int .u64 0, .int .i64 0, .int .i64 0] 30) = X := ⟨_, rfl⟩
                  have hA6 : Below w6.heap.size w6 X6 := by rw [← hX6]; exact (Below.refl _ w6).alloc (Nat.le_refl _) _
                  have R6 : RndAt w w1 X6 B D (k + 1) r O6 := ⟨inv6'.out.more, hD6'.out.later hA6, low6'.out, base6'.out, kept6'.out.trans (hA6.mono hD6'.out.le)⟩
                  have fin' := Lib.hid (show ∀ W, Below X6.heap.size X6 W → StRel w w1 W B D (k + 1) from fun W hb => ⟨_, _, R6.later hb⟩)
                  have hck : Calls Tryz.prog 15 #[.agg #[.slice zp N zc, .int .u64 v.floor, .int .u64 v.head, .int .i64 v.log, .int .i64 v.next]] X6 (ErrPost X6 0) := by
                    have := check16_calls _ v X6 (hzv0.out.later R6.below).is (hzv0.out.later R6.below).capOk
                    rw [hN'.out, if_pos hok] at this
                    exact this
                  have hck' := Lib.hid hck
                  have bG7 := Lib.hid (bG6.out.below hA6 bG6.out.lt)
                  have hX6' := Lib.hid hX6
                  have cG6 := bG6.out.cell
                  have lG6 := bG6.out.lt
                  clear hck R6 hA6 hX6 kept6' row6' hD6' o6' bG6 hok hne hvw hmem hfn hnx hst
                  go_wp2_with fail
                  rw [hX6'.out]
                  refine hck'.out.mono ?_
                  rintro e w7 ⟨rfl, b7⟩
                  have b7' := Lib.hid b7
                  have cG7 := (bG7.out.below b7 bG7.out.lt).cell
                  clear b7
                  go_wp2_with fail
                  refine (hNm'.out w7).mono ?_
                  rintro e w70 ⟨rfl, b70⟩
                  have b70' := Lib.hid (b7'.out.trans (b70.mono b7'.out.size))
                  clear b70
                  go_wp2_with fail
                  exact ⟨⟨k + 1, by go_num, by omega, fin'.out w70 b70'.out⟩, by simp only [intOf]; omega⟩
                | false =>
                  have hmem : r.view nm = none := by
                    cases h : r.view nm with
                    | none => rfl
                    | some c =>
                      have h1 := hvw.2 (by rw [h]; simp)
                      have h2 := hX'.out
                      rw [List.any_eq_false] at h2
                      exact absurd (beq_self_eq_true nm) (h2 nm h1)
                  have hu := inv6'.out.used
                  have hcp := inv6'.out.cap
                  have hk9 : k * 14200 ≤ 9 * 14200 := Nat.mul_le_mul_right _ (by omega)
                  have hS : Started r v := startR_ok inv6'.out.ok hok hfn (by rw [hnm'.out]; exact hmem) (by omega)
                  rw [hS.err] at o6' ⊢
                  obtain ⟨q6, k6, rfl⟩ : ∃ p k, v6 = .agg #[.slice p N k, .int .u64 v.floor, .int .u64 v.head, .int .i64 v.log, .int .i64 (v.next + 1)] := by
                    obtain ⟨p, k, e, _⟩ := o6'.out.agg
                    exact ⟨p, k, by rw [← hN'.out]; exact e⟩
                  have o6y : VerOwn wi.heap.size w6 (.agg #[.slice q6 N k6, .int .u64 v.floor, .int .u64 v.head, .int .i64 v.log, .int .i64 (v.next + 1)]) v.up := o6'.out
                  obtain ⟨X6, hX6⟩ : ∃ X, w6.alloc (.cells #[.slice q6 N k6, .int .u64 v.floor, .int .u64 v.head, .int .i64 v.log, .int .i64 (v.next + 1)] 30) = X := ⟨_, rfl⟩
                  have hA6 : Below w6.heap.size w6 X6 := by rw [← hX6]; exact (Below.refl _ w6).alloc (Nat.le_refl _) _
                  have bH : Blk X6 w6.heap.size 30 #[.slice q6 N k6, .int .u64 v.floor, .int .u64 v.head, .int .i64 v.log, .int .i64 (v.next + 1)] := by rw [← hX6]; exact Blk.new w6 _ _
                  obtain ⟨HH, hHH⟩ : ∃ H, w6.heap.size = H := ⟨_, rfl⟩
                  rw [hHH] at bH
                  have R6 : RndAt w w1 X6 B D (k + 1) (startR r v).1 O6 := ⟨inv6'.out.next hS hbulk hfn, hD6'.out.later hA6, low6'.out, base6'.out, kept6'.out.trans (hA6.mono hD6'.out.le)⟩
                  have fin' := Lib.hid (show ∀ W, Below X6.heap.size X6 W → StRel w w1 W B D (k + 1) from fun W hb => ⟨_, _, R6.later hb⟩)
                  have hfits : v.up.whole.fits := whole_fits (up_ok hok (by omega)) ⟨(hzv0.out.is.nums).1, (hzv0.out.is.nums).2.1⟩ (by have := few_tables hF1'.out; show v.tables.length ≤ _; omega) (few_sizes hF1'.out)
                  have hLo : ∀ W, Below X6.heap.size X6 W → Calls Tryz.prog 22 #[.pointer (some ⟨D, 0, none⟩)] W (LoadPost W (v.up, v.next, 0)) := by
                    intro W hW
                    have h1 := load_calls (R6.later hW).at_ (by omega) (fun s => readB_le 200000 (fun s c hc => Nat.le_trans (R6.inv.view s c hc) (by decide)) s) (hs0.out.next (R6.later hW).below)
                    rw [hS.load hok hfn hfits (by omega)] at h1
                    exact h1
                  have hck : Calls Tryz.prog 15 #[.agg #[.slice zp N zc, .int .u64 v.floor, .int .u64 v.head, .int .i64 v.log, .int .i64 v.next]] X6 (ErrPost X6 0) := by
                    have := check16_calls _ v X6 (hzv0.out.later R6.below).is (hzv0.out.later R6.below).capOk
                    rw [hN'.out, if_pos hok] at this
                    exact this
                  have hck' := Lib.hid hck
                  have hLo' := Lib.hid hLo
                  have bG7 := Lib.hid (bG6.out.below hA6 bG6.out.lt)
                  have bH7 := Lib.hid bH
                  have o7 := Lib.hid (o6y.later hA6)
                  have hX6' := Lib.hid hX6
                  have hHH' := Lib.hid hHH
                  have bel6 := Lib.hid R6.below
                  have cG6 := bG6.out.cell
                  have lG6 := bG6.out.lt
                  have hlup : ∀ t ∈ v.up.tables, t.lang := hzv0.out.is.lang
                  have hnup : v.up.floor < 18446744073709551616 ∧ v.up.head < 18446744073709551616 ∧ -9223372036854775808 ≤ v.up.log ∧ v.up.log < 9223372036854775808 ∧ -9223372036854775808 ≤ v.up.next ∧ v.up.next < 9223372036854775808 := by
                    obtain ⟨n1, n2, n3, n4, n5, n6⟩ := hzv0.out.is.nums
                    show v.floor < _ ∧ v.head < _ ∧ _ ≤ v.log ∧ v.log < _ ∧ _ ≤ v.next + 1 ∧ v.next + 1 < _
                    omega
                  have htl : v.up.tables.length ≤ 1000000 := by have := few_tables hF1'.out; show v.tables.length ≤ _; omega
                  have hlup' := Lib.hid hlup
                  have hnup' := Lib.hid hnup
                  have htl' := Lib.hid htl
                  have hw1 : IntKind.i64.wrap (v.next + 1) = v.next + 1 := IntWalk.i64_in _ (by omega)
                  have hn0 : 1 ≤ v.next := by omega
                  have hn9 : v.next ≤ 999999999 := by omega
                  clear hck R6 hA6 hX6 kept6' row6' hD6' o6' o6y bG6 bH hLo hvw hmem hfn hnx hS hlup hnup htl hfits hu hcp hk9 hHH hok hne
                  rw [show ((v.up, v.next, (0 : Int)) : Ver × Int × Int).2.1 = v.next from rfl, show ((v.up, v.next, (0 : Int)) : Ver × Int × Int).2.2 = 0 from rfl]
                  go_wp2_with fail
                  rw [hX6'.out]
                  refine hck'.out.mono ?_
                  rintro e w7 ⟨rfl, b7⟩
                  have b7' := Lib.hid b7
                  have cG7 := (bG7.out.below b7 bG7.out.lt).cell
                  clear b7
                  go_wp2_with fail
                  refine (hNm'.out w7).mono ?_
                  rintro e w70 ⟨rfl, b70⟩
                  have b70' := Lib.hid (b7'.out.trans (b70.mono b7'.out.size))
                  clear b70 cG7
                  go_wp2_with fail
                  refine (hLo'.out w70 b70'.out).mono ?_
                  rintro e w8 ⟨v8, rfl, o8, b8⟩
                  obtain ⟨q8, k8, rfl⟩ : ∃ p k, v8 = .agg #[.slice p N k, .int .u64 v.floor, .int .u64 v.head, .int .i64 v.log, .int .i64 (v.next + 1)] := by
                    obtain ⟨p, k, e, _⟩ := o8.agg
                    exact ⟨p, k, by rw [← hN'.out]; exact e⟩
                  have o8 : VerOwn w70.heap.size w8 (.agg #[.slice q8 N k8, .int .u64 v.floor, .int .u64 v.head, .int .i64 v.log, .int .i64 (v.next + 1)]) v.up := o8
                  have b8' := Lib.hid (b70'.out.trans (b8.mono b70'.out.size))
                  have bG8 := bG7.out.below b8'.out bG7.out.lt
                  have bH8 := bH7.out.below b8'.out bH7.out.lt
                  have cG8 := bG8.cell
                  have lG8 := bG8.lt
                  have cH8 := bH8.cell
                  have lH8 := bH8.lt
                  have o8' := Lib.hid o8
                  clear o8 b8 bG8 bH8
                  rw [show ((v.up, v.next, (0 : Int)) : Ver × Int × Int).2.1 = v.next from rfl, show ((v.up, v.next, (0 : Int)) : Ver × Int × Int).2.2 = 0 from rfl]
                  rw [hHH'.out]
                  go_wp2_with fail
                  obtain ⟨X9, hX9⟩ : ∃ X, (w8.alloc (.cells #[.slice q8 N k8, .int .u64 v.floor, .int .u64 v.head, .int .i64 v.log, .int .i64 (v.next + 1)] 30)).alloc (.cells #[.slice zp N zc, .int .u64 v.floor, .int .u64 v.head, .int .i64 v.log, .int .i64 (v.next + 1)] 30) = X := ⟨_, rfl⟩
                  have hA9 : Below w8.heap.size w8 X9 := by rw [← hX9]; exact ((Below.refl _ w8).alloc (Nat.le_refl _) _).alloc (by simp) _
                  have bJ : Blk X9 w8.heap.size 30 #[.slice q8 N k8, .int .u64 v.floor, .int .u64 v.head, .int .i64 v.log, .int .i64 (v.next + 1)] := by rw [← hX9]; exact (Blk.new w8 _ _).alloc _
                  have bK : Blk X9 (w8.heap.size + 1) 30 #[.slice zp N zc, .int .u64 v.floor, .int .u64 v.head, .int .i64 v.log, .int .i64 (v.next + 1)] := by
                    rw [← hX9]
                    have := Blk.new (w8.alloc (.cells #[.slice q8 N k8, .int .u64 v.floor, .int .u64 v.head, .int .i64 v.log, .int .i64 (v.next + 1)] 30)) 30 #[.slice zp N zc, .int .u64 v.floor, .int .u64 v.head, .int .i64 v.log, .int .i64 (v.next + 1)]
                    rw [World.size_alloc] at this; exact this
                  have b9' := Lib.hid (b8'.out.trans (hA9.mono b8'.out.size))
                  have hwant : ∀ W, Below X9.heap.size X9 W → VerIs W (.agg #[.slice zp N zc, .int .u64 v.floor, .int .u64 v.head, .int .i64 v.log, .int .i64 (v.next + 1)]) v.up := by
                    intro W hW
                    have h1 : Below w.heap.size w W := bel6.out.trans ((b9'.out.trans (hW.mono b9'.out.size)).mono bel6.out.size)
                    obtain ⟨⟨p', c', e, hAt⟩, _, _, _⟩ := (hzv0.out.later h1).is
                    obtain ⟨e1, e2⟩ : zp = p' ∧ zc = c' := by
                      injection e with e
                      have := congrArg (fun a => a[0]?) e
                      simp only [List.getElem?_toArray, List.getElem?_cons_zero, Option.some.injEq] at this
                      injection this with e1 _ e2
                      exact ⟨e1, e2⟩
                    subst e1 e2
                    exact ⟨⟨zp, zc, by rw [← hN'.out]; rfl, hAt⟩, htl'.out, hlup'.out, hnup'.out⟩
                  have i1 := (((o7.out.later b8'.out).later hA9)).is2 htl'.out hlup'.out hnup'.out
                  have i3 := (o8'.out.later hA9).is2 htl'.out hlup'.out hnup'.out
                  have c9 := Lib.hid (same21_calls _ _ _ _ _ i1 (hwant X9 (Below.refl _ _)))
                  have i3' := Lib.hid i3
                  have hwant' := Lib.hid hwant
                  have bJ' := Lib.hid bJ
                  have bK' := Lib.hid bK
                  have hX9' := Lib.hid hX9
                  clear i1 i3 hwant bJ bK hA9 hX9
                  rw [hX9'.out]
                  refine c9.out.mono ?_
                  rintro e w10 ⟨b10, rfl, hb10, bb10⟩
                  obtain rfl : b10 = true := hb10.2 (by trivial)
                  have b10' := Lib.hid (b9'.out.trans (bb10.mono b9'.out.size))
                  have c10 := Lib.hid (same21_calls _ _ _ _ _ (i3'.out.later bb10) (hwant'.out w10 bb10))
                  have cJ := (bJ'.out.below bb10 bJ'.out.lt).cell
                  have cK := (bK'.out.below bb10 bK'.out.lt).cell
                  clear bb10 hb10 cG8 lG8 cH8 lH8 c9
                  go_wp2_with fail
                  refine c10.out.mono ?_
                  rintro e w11 ⟨b11, rfl, hb11, bb11⟩
                  obtain rfl : b11 = true := hb11.2 (by trivial)
                  have b11' := Lib.hid (b10'.out.trans (bb11.mono b10'.out.size))
                  clear bb11 hb11 c10 cJ cK
                  go_wp2_with fail
                  exact ⟨⟨k + 1, by go_num, by omega, fin'.out w11 b11'.out⟩, by simp only [intOf]; omega⟩
      · obtain rfl : k = L := by omega
        have hb' := Lib.hid hR.below
        clear hR
        go_wp2_with fail
        go_ret
        exact ⟨rfl, hb'.out⟩
end Go.Proofs.YtabcdodjkfknlaaGreatDoor
namespace Go.Proofs.YtabcdodjkfknlaaGreatDoor
open Go.ChangeShapes Go.WideShapes Go.ChangeAt Go.RowKit Go.Deep
section
variable {H : Type} {enc : TypeId × Value → H} {w : World} {base : Nat} {spare : Nat → Bool} {held : Bool}
set_option maxRecDepth 100000 in
theorem open_verL (fuel : Nat) (cs : List Value) (x : DataW H × List MemPlace) (hl : cs.length = 5) (h : DataW.trod enc Tryz.prog w base spare held fuel 30 cs = some x) : ∃ z : VEl, cs = VEl.cells z ∧ (Rows.uptoBulk x.1 ≤ 1048576 → VerArg w z.p z.c z.v) := by
  obtain ⟨c0, c1, c2, c3, c4, rfl⟩ := list5 hl
  obtain ⟨xs, n, hfn, hx, _, hlen, hg⟩ := DataW.trod_struct Tryz.underlying30 h
  match xs, hlen with
  | [y0, y1, y2, y3, y4], _ =>
    have h0 : DataW.trod enc Tryz.prog w base spare held n 27 [c0] = some y0 := by simpa [cellsTbls] using hg 0 _ rfl
    obtain ⟨k1, e1, _, w1⟩ := DataW.trod_int Tryz.underlying28 (by simpa [cellsU64] using hg 1 _ rfl : DataW.trod enc Tryz.prog w base spare held n 28 [c1] = some y1)
    obtain ⟨k2, e2, _, w2⟩ := DataW.trod_int Tryz.underlying28 (by simpa [cellsU64] using hg 2 _ rfl : DataW.trod enc Tryz.prog w base spare held n 28 [c2] = some y2)
    obtain ⟨k3, e3, _, w3⟩ := DataW.trod_int Tryz.underlying3 (by simpa [cellsInt] using hg 3 _ rfl : DataW.trod enc Tryz.prog w base spare held n 3 [c3] = some y3)
    obtain ⟨k4, e4, _, w4⟩ := DataW.trod_int Tryz.underlying3 (by simpa [cellsInt] using hg 4 _ rfl : DataW.trod enc Tryz.prog w base spare held n 3 [c4] = some y4)
    obtain ⟨zs, ds, p, cap, rfl, hcap, _, hat, hdl, hbk, hq⟩ := open_rowsK rkT rkT_ok cellsTbl (Q := tblQ) h0 open_tbl
    simp only [List.cons.injEq, and_true] at e1 e2 e3 e4
    obtain ⟨m1, rfl, b1⟩ := u64_nat w1
    obtain ⟨m2, rfl, b2⟩ := u64_nat w2
    obtain ⟨i3, j3⟩ := i64_bd w3
    obtain ⟨i4, j4⟩ := i64_bd w4
    have hbb : Rows.uptoBulk x.1 = Rows.uptoBulk y0.1 + (Rows.uptoBulk y1.1 + (Rows.uptoBulk y2.1 + (Rows.uptoBulk y3.1 + (Rows.uptoBulk y4.1 + 0)))) + 1 := by rw [hx]; rfl
    have hlen1 := bulk_two ds fun i d hd => by
      have hlt := (List.getElem?_eq_some_iff.1 hd).1
      obtain ⟨d', h1, h2, _⟩ := hq i _ (List.getElem?_eq_getElem (by omega))
      obtain rfl := Option.some.inj (hd.symm.trans h1)
      exact h2
    subst e1 e2 e3 e4
    refine ⟨⟨p, cap, ⟨zs, m1, m2, k3, k4⟩⟩, rfl, fun hb => ?_⟩
    have hin : ∀ t ∈ zs, t.lang ∧ t.first.size ≤ 1048576 ∧ t.last.size ≤ 1048576 := fun t ht => by
      obtain ⟨i, hi⟩ := List.getElem?_of_mem ht
      obtain ⟨d, h1, _, h2, h3, h4⟩ := hq i t hi
      have := bulk_mem h1
      exact ⟨h2, by omega, by omega⟩
    exact ⟨⟨⟨p, cap, rfl, hat⟩, by show zs.length ≤ _; omega, fun t ht => (hin t ht).1, b1, b2, i3, j3, i4, j4⟩, hcap, fun t ht => by have := (hin t ht).2; omega⟩
end
def fstartsArgs : Array Value := #[.slice none 0 0]
theorem fstarts_laid (os : Os) : laidMet Tryz.prog Rows.filesStartsUptoRow.laid ((laidWorld os).forCall (fun _ _ => 0) ⟨#[], fstartsArgs, []⟩).memory :=
  laidMet_of_run' 8 (by kernel_rfl) (by kernel_rfl)
theorem fstarts_reads (os : Os) {H : Type} (enc : TypeId × Value → H) : ∃ places, DataW.whole enc Tryz.prog ((laidWorld os).forCall (fun _ _ => 0) ⟨#[], fstartsArgs, []⟩).memory Tryz.f5.params.toList Rows.filesStartsSpec.vars false fstartsArgs.toList 8 = some ([.nil], [], places) :=
  ⟨[], by kernel_rfl⟩
set_option maxRecDepth 100000 in
theorem fstarts_lifted (os : Os) (started : os.Started) (H : Type) (enc : TypeId × Value → H) (F : Stop.Interp) :
    ReturnsInHanded {} Tryz.checked os 5 .any ((Rows.OpenSpec.upto Rows.filesStartsSpec).preRow enc Tryz.prog Tryz.f5 Rows.filesStartsUptoRow.domain false Rows.filesStartsUptoRow.laid) (((Rows.OpenSpec.upto Rows.filesStartsSpec).at F).post enc Tryz.prog Tryz.f5 false true false false) := by
  obtain ⟨places, hx⟩ := fstarts_reads os enc
  refine returnsInHanded_of_row (C := Tryz.checked) (s := Rows.OpenSpec.upto Rows.filesStartsSpec) own started (by kernel_rfl) Tryz.func5
    (witness_row_at (enc := enc) (C := Tryz.checked) false (laidWorld os) fstartsArgs rfl (by kernel_rfl) (by kernel_rfl) (by kernel_rfl)
      (OpenSpec.preRow_of_cond 8 hx (by kernel_rfl) (fun k hk => by cases hk; kernel_rfl) (by kernel_rfl) (fstarts_laid os))) ?_
  intro W base args ds gs before hval0 hW k1 k2 k3 hlaid hsh _
  have hval : ∀ (j : Nat) t v, Tryz.f5.params[j]? = some t → args[j]? = some v → Value.okWide Tryz.prog W .any base t v := hval0
  have hW' := hW
  obtain ⟨p, q, hA0, hV, rfl, hfz, hnd⟩ := hW
  have hA : DataW.TrodAll enc Tryz.prog W 0 (fun _ => true) true Tryz.f5.params.toList args.toList ds p := hA0
  rw [Tryz.params5] at hA hval
  obtain ⟨v0, d0, rfl, rfl, h0⟩ := trodAll_one hA
  obtain ⟨rfl, rfl⟩ := trodVars_none hV
  have hcond : Rows.uptoSmall H [d0] = true := by
    first
      | exact k1 _ rfl
      | exact k2 _ rfl
      | exact k3 _ rfl
  obtain ⟨pp, len, cap, rfl⟩ := okWide_slice Tryz.underlying50 (hval 0 50 v0 rfl rfl)
  have h0k := h0
  obtain ⟨fuel, hf⟩ := h0
  clear hA0 hval0
  simp only [List.append_nil] at hW'
  have hlt : ∀ x ∈ p, x.block < W.heap.size := fun x hx => by simpa using hW'.lt x hx
  have hargs : ∀ (W' : World), Below W.heap.size W W' → DataW.Trod enc Tryz.prog W' 0 (fun b => decide (b < W.heap.size)) true 50 (.slice pp len cap) d0 p :=
    fun W' hn => Below.trod laidOut (by kernel_rfl) (of_decide_eq_true (by kernel_rfl)) h0k hn hlt
  have hb : Rows.uptoBulk d0 + 0 ≤ 1048576 := of_decide_eq_true hcond
  obtain ⟨zs, ds, p1, cap1, e1, _, _, hat, hdl, hbk, hq⟩ := open_rowsK rkV rkV_ok cellsVer (Q := fun z d => Rows.uptoBulk d ≤ 1048576 → VerArg W z.p z.c z.v) hf open_verL
  obtain ⟨rfl, rfl, rfl⟩ : pp = p1 ∧ len = zs.length ∧ cap = cap1 := by injection e1 with a b c; exact ⟨a, b, c⟩
  have hbk2 : Rows.uptoBulkAll ds + 1 ≤ Rows.uptoBulk d0 := hbk
  have hlen := bulk_len ds
  refine (filesStarts_calls pp cap zs W (std_of_laid hlaid hsh) hat (fun z hz => ?_) (by omega)).mono fun e W' ⟨he, hB⟩ => ?_
  · obtain ⟨i, hi⟩ := List.getElem?_of_mem hz
    obtain ⟨d, h1, h2⟩ := hq i z hi
    have := bulk_mem h1
    exact h2 (by omega)
  · subst he
    exact ⟨_, rfl, _, _, _, [], _, [], hW', trodAll_mk1 (shut_bool Tryz.underlying4 _), trodAll_mk1 (hargs _ hB), rfl, hB.frame _, fun h => by cases h⟩
theorem fstarts_said : Rows.FilesStartsUptoSaid :=
  OpenClaim.holds_of_cond 5 Tryz.f5 rfl rfl rfl rfl rfl rfl rfl ⟨rfl, rfl, rfl, rfl, rfl⟩ rfl rfl rfl rfl rfl (by kernel_rfl) Tryz.func5 (by kernel_rfl)
    (of_decide_eq_true (by kernel_rfl)) (by unfold Func.isWrapper; first | (rw [if_pos (by decide +kernel)]; kernel_rfl) | (rw [if_neg (by decide +kernel)]; exact ⟨rfl, rfl⟩))
    (fun os started H enc _ F => by rw [OpenClaim.pre_eq_preRow]; exact fstarts_lifted os started H enc F)
theorem fstarts_plain (f : FuncId) (fn : Func) (hf : Tryz.pinned.checked.prog.funcNamed "sentry/sentrylaw21.FilesStarts" = some f) (hfn : Tryz.pinned.checked.prog.funcs[f]? = some fn) :
    true = Tryz.pinned.checked.prog.looks [] ∧ ∀ (j : Nat) t, fn.params[j]? = some t → Tryz.pinned.checked.prog.wantsStandIn t = false := by
  obtain rfl : f = 5 := Option.some.inj ((show Tryz.prog.funcNamed "sentry/sentrylaw21.FilesStarts" = some 5 by kernel_rfl).symm.trans hf) |>.symm
  obtain rfl : fn = Tryz.f5 := (Option.some.inj (Tryz.func5.symm.trans hfn)).symm
  refine ⟨by kernel_rfl, fun j t ht => ?_⟩
  rw [Tryz.params5] at ht
  obtain rfl : t = 50 := by simpa using Array.mem_of_getElem? ht
  exact (show Tryz.prog.wantsStandIn 50 = false by kernel_rfl)
theorem fstarts_card : Rows.FilesStartsUptoCardSaid :=
  Claim7.holds_tied_plain_at .later [] _ _ _ _ fstarts_said (fun _ h => by cases h) (by kernel_rfl) (fun _ h => by cases h) filesStartsUpto_row_tie rfl ⟨rfl, rfl⟩ (by kernel_rfl) rfl fstarts_plain (by kernel_rfl)
#print axioms fstarts_card
end Go.Proofs.YtabcdodjkfknlaaGreatDoor
