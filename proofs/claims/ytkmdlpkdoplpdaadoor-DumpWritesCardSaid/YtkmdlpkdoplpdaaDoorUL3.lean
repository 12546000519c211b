/- Walk: a dump is read. -/
import Derived.Test.YtkmdlpkdoplpdaaDoorUL2
namespace Go.Proofs.YtkmdlpkdoplpdaaDoor
open Go.RowKit
section
variable {B g : Nat} {w : World} {v : Value} {k : Nat} {out : List Tup}
theorem line_calls (d : Bool) (l : ByteArray) (hk : k ≤ 100000) (hn : out.length ≤ k) (hls : l.size ≤ 100000) (htab : Tb B w) (hgB : B ≤ g) (hg : Blk w g 51 #[v, .int .i64 k, .bool d]) (hT : TOwn B w v out) :
    Calls Tryd.prog 22 #[.pointer (some ⟨g, 0, none⟩), .string l] w (LinePost B g w v k (lineR out (k + 1) d l)) := by
  cases d
  · by_cases h0 : k = 0
    · subst h0
      obtain rfl : out = [] := List.eq_nil_of_length_eq_zero (by omega)
      exact line_first l hg hT
    · have hk1 : 1 ≤ k := by omega
      have hn' : out.length ≤ 100000 := by omega
      by_cases hl : l.data.toList = endL out.length
      · exact line_end l hk1 hk hn' htab hgB hg hT hl
      · cases hp : parseOk l
        · exact line_bad l hk1 hk hn' hls htab hgB hg hT hl hp
        · cases hlast : lastGe out (parseT l)
          · by_cases he : out = []
            · subst he
              exact line_one l hk1 hk hls htab hgB hg hT hl hp
            · exact line_add l hk1 hk hn' hls htab hgB hg hT hl hp (List.length_pos_iff.2 he) hlast
          · exact line_order l hk1 hk hn' hls htab hgB hg hT hl hp hlast
  · exact line_done l hk hg hT
end
/-- what reading leaves -/
def ReadPost (w : World) (R : List Tup × Nat × Int) (e : Ending) (w' : World) : Prop :=
  ∃ v, e = .returned (.tuple #[v, .int .i64 R.2.1, .int .i64 R.2.2]) ∧ TOwn w.heap.size w' v R.1 ∧ Below w.heap.size w w'
theorem cutsize {s : ByteArray} : (cA 10 s).size ≤ s.size := cA_le 10 s
set_option maxHeartbeats 1000000 in
set_option maxRecDepth 100000 in
theorem read_calls (s : ByteArray) (w : World) (hs : s.size ≤ 50000) (htab : Tb w.heap.size w) :
    Calls Tryd.prog 8 #[.string s] w (ReadPost w (dread [] 1 false s)) := by
  obtain ⟨R, hR⟩ : ∃ R, dread [] 1 false s = R := ⟨_, rfl⟩
  rw [hR]
  have hb := (Below.refl w.heap.size w).alloc (Nat.le_refl _) (.cells #[.slice none 0 0, .int .i64 0, .bool false] 51)
  have hg := Blk.new w 51 #[.slice none 0 0, .int .i64 0, .bool false]
  have hR' := Lib.hid hR
  have hb' := Lib.hid hb
  have hg' := Lib.hid hg
  clear hR hb hg
  go_enter Tryd.func8, Tryd.ntmps8
  go_wp2_with fail
  go_loopw [0] (fun sv wr => ∃ (s' : ByteArray) (k : Nat) (d : Bool) (out : List Tup) (v : Value), sv = .string s' ∧ s'.size + k ≤ s.size ∧ out.length ≤ k ∧ dread out (k + 1) d s' = R ∧ Blk wr w.heap.size 51 #[v, .int .i64 k, .bool d] ∧ TOwn w.heap.size wr v out ∧ Below w.heap.size w wr) (fun sv _ => match sv with | .string s' => s'.size | _ => 0)
  case atStart => exact ⟨s, 0, false, [], _, rfl, by omega, by simp, hR'.out, hg'.out, TOwn.nil _ _, hb'.out⟩
  case round =>
    obtain ⟨s', k, d, out, v, rfl, hsz, hol, hD, hg, hT, hB⟩ := hrel
    have hC := fun W => cut_calls s' 10 W (by unfold maxLen; omega)
    cases hH : cH 10 s'
    · rw [hH] at hC
      have hz := hg.lt
      have hgc := hg.cell
      have hC' := Lib.hid hC
      have hD' := Lib.hid hD
      have hT' := Lib.hid hT
      have hB' := Lib.hid hB
      have hg' := Lib.hid hg
      have hH' := Lib.hid hH
      clear hC hD hT hB hg hH hgc
      go_wp2_with fail
      refine (hC'.out _).mono ?_
      rintro e w2 ⟨rfl, hb2⟩
      have g2 := (hg'.out.keeps (.of_below (S := fun _ => False) hb2) id).cell
      have T2 := Lib.hid (hT'.out.later hb2)
      have B2 := Lib.hid (hB'.out.trans (hb2.mono (by omega)))
      have hz2 := hb2.size
      clear hb2
      cases d
      · have hDs := hD'.out
        rw [dread_short (by rw [hH'.out]; decide)] at hDs
        subst hDs
        go_wp2_with fail
        go_quiet (fail)
        go_wp2_with fail
        go_ret3
        exact ⟨_, rfl, TOwn.nil _ _, bdrewN B2.out _⟩
      · by_cases he : s'.data.toList = []
        · have hDs := hD'.out
          rw [dread_end he] at hDs
          subst hDs
          have he1 : s'.toList = [] := by rw [Lib.toList_data]; exact he
          have he2 : (!s'.toList.isEmpty) = false := by rw [he1]; rfl
          clear he
          go_wp2_with fail
          go_ret3
          exact ⟨_, rfl, T2.out, B2.out⟩
        · have hDs := hD'.out
          rw [dread_rest (by rw [hH'.out]; decide) he] at hDs
          subst hDs
          have he2 : (!s'.toList.isEmpty) = true := by
            rw [Lib.toList_data]
            cases hh : s'.data.toList with
            | nil => exact absurd hh he
            | cons _ _ => rfl
          clear he
          go_wp2_with fail
          go_quiet (fail)
          go_wp2_with fail
          go_ret3
          exact ⟨_, rfl, TOwn.nil _ _, bdrewN B2.out _⟩
    · rw [hH] at hC
      have hz := hg.lt
      have hlt := cut1_rest_le hH
      have hle := cutsize (s := s')
      obtain ⟨v2, hv2⟩ : ∃ v2, wr.heap.size = v2 := ⟨_, rfl⟩
      have hC' := Lib.hid hC
      have hD' := Lib.hid hD
      have hT' := Lib.hid hT
      have hB' := Lib.hid hB
      have hg' := Lib.hid hg
      have hH' := Lib.hid hH
      clear hC hD hT hB hg hH hv2
      go_wp2_with fail
      refine (hC'.out _).mono ?_
      rintro e w2 ⟨rfl, hb2⟩
      have g2 := hg'.out.keeps (.of_below (S := fun _ => False) hb2) id
      have T2 := (hT'.out.later hb2)
      have B2 := (hB'.out.trans (hb2.mono (by omega)))
      have hL := line_calls d (cA 10 s') (by omega) hol (by omega) (htab.step B2) (Nat.le_refl _) g2 T2
      have hlow := fun j hj => (T2.lt j hj).1
      have hlow' := Lib.hid hlow
      have hL' := Lib.hid hL
      have B2' := Lib.hid B2
      have hz2 := Nat.lt_of_lt_of_le hz hb2.size
      clear hb2 hL B2 T2 g2 hlow
      go_wp2_with fail
      refine hL'.out.mono ?_
      rintro e w3 ⟨rfl, v3, g3, T3, K3⟩
      have B3 := Lib.hid (Keeps.below_step B2'.out (Nat.le_of_lt hz2) K3 fun j e => e.elim (fun e => Nat.le_of_eq e.symm) (fun e => hlow'.out j e))
      have hDs := hD'.out
      by_cases h0 : (lineR out (k + 1) d (cA 10 s')).1 = 0
      · rw [dread_yes hH'.out h0] at hDs
        rw [h0]
        have hll := lineR_len out (k + 1) d (cA 10 s')
        have hDs' := Lib.hid hDs
        have g3' := Lib.hid g3
        have T3' := Lib.hid T3
        clear hDs g3 T3 K3 h0 hL' hC' hD'
        go_wp2_with fail
        go_roundw
        case rel => exact ⟨cB 10 s', k + 1, _, _, v3, rfl, by omega, by omega, hDs'.out, g3'.out, T3'.out, B3.out⟩
        case measure => exact hlt
      · rw [dread_bad hH'.out h0] at hDs
        obtain ⟨ee, hee⟩ : ∃ ee, (lineR out (k + 1) d (cA 10 s')).1 = ee := ⟨_, rfl⟩
        rw [hee] at hDs h0 ⊢
        subst hDs
        have g3c := g3.cell
        have hne : (ee != 0) = true := by rw [bne_iff_ne]; exact h0
        have hee' := Lib.hid hee
        clear hee
        clear g3 T3 K3 hL' hC' hD' hH'
        go_wp2_with fail
        go_quiet (fail)
        go_wp2_with fail
        go_ret3
        exact ⟨_, rfl, TOwn.nil _ _, bdrewN B3.out _⟩
end Go.Proofs.YtkmdlpkdoplpdaaDoor
