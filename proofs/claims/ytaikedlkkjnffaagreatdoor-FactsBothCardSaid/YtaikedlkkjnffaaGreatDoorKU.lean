/- A tuple in the making: what holds amid it; a type of a made schema, read. Walk: the tape's Tuple. -/
import Derived.Test.YtaikedlkkjnffaaGreatDoorKTs
import Derived.Test.YtaikedlkkjnffaaGreatDoorTup
import Derived.Test.YtaikedlkkjnffaaGreatDoorW7
import Derived.Deep.RegionHeld3
import Derived.Deep.CutRange
namespace Go.Proofs.YtaikedlkkjnffaaGreatDoor
open Go.RowKit
def ids3 : Array Value := #[.string ⟨#[49]⟩, .string ⟨#[50]⟩, .string ⟨#[51]⟩]
theorem ids3_at (k : Nat) (hk : k < 3) : ∃ s : ByteArray, ids3[k]? = some (.string s) ∧ s.size ≤ 10 := by
  rcases k with _ | _ | _ | k
  · exact ⟨_, rfl, by decide⟩
  · exact ⟨_, rfl, by decide⟩
  · exact ⟨_, rfl, by decide⟩
  · omega
def tupD : Tup := ⟨⟨#[100, 111, 99]⟩, ⟨#[49]⟩, ⟨#[118, 105, 101, 119, 101, 114]⟩, ⟨#[117, 115, 101, 114]⟩, ⟨#[49]⟩, ⟨#[]⟩⟩
def Tup.short (t : Tup) : Prop := t.a.size ≤ 10 ∧ t.b.size ≤ 10 ∧ t.c.size ≤ 10 ∧ t.d.size ≤ 10 ∧ t.e.size ≤ 10 ∧ t.f.size ≤ 10
theorem Tup.short.fits {t : Tup} (h : t.short) : t.fits := by
  obtain ⟨h0, h1, h2, h3, h4, h5⟩ := h
  intro p hp
  simp [Tup.l] at hp
  unfold maxLen
  rcases hp with rfl | rfl | rfl | rfl | rfl | rfl <;> omega
def zero6 : Array Value := #[.string ⟨#[]⟩, .string ⟨#[]⟩, .string ⟨#[]⟩, .string ⟨#[]⟩, .string ⟨#[]⟩, .string ⟨#[]⟩]
/-- amid a tuple: the schema's place, the result's, the tuple's, the ids -/
structure UInv (tp : Nat) (w wx : World) (p : Option Addr) (n c : Nat) (t : Tup) : Prop where
  box : Blk wx w.heap.size 56 #[.slice p n c]
  res : Blk wx (w.heap.size + 1) 60 zero6
  out : Blk wx (w.heap.size + 2) 60 #[.string t.a, .string t.b, .string t.c, .string t.d, .string t.e, .string t.f]
  ids : Blk wx (w.heap.size + 3) 9 ids3
  tape : TapeAt wx tp
  on : OnTape tp w wx
  tl : tp < w.heap.size
  short : t.short
section
variable {tp : Nat} {w wx wy : World} {p : Option Addr} {n c : Nat} {t t' : Tup}
theorem UInv.step (h : UInv tp w wx p n c t) (hk : OnTape tp wx wy) (hT : TapeAt wy tp) : UInv tp w wy p n c t := by
  have := h.tl
  exact ⟨h.box.keeps hk (by omega), h.res.keeps hk (by omega), h.out.keeps hk (by omega), h.ids.keeps hk (by omega), hT, h.on.trans hk, h.tl, h.short⟩
theorem UInv.later (h : UInv tp w wx p n c t) (hb : Below wx.heap.size wx wy) : UInv tp w wy p n c t := h.step (.of_below hb) (h.tape.later hb)
theorem UInv.sees {g0 : Nat} (h : UInv tp w wx p n c t) (hg : ¬ g0 = tp) (hl : g0 < w.heap.size) : (∀ i, wx.cell? ⟨w.heap.size, i, none⟩ = (#[.slice p n c] : Array Value)[i]?) ∧ ∀ i, wx.cell? ⟨g0, i, none⟩ = w.cell? ⟨g0, i, none⟩ := ⟨h.box.cell, fun i => h.on.cell (p := ⟨g0, i, none⟩) hl hg⟩
theorem UInv.put (h : UInv tp w wx p n c t) (hk : Keeps (fun j => j = w.heap.size + 2) wx wy) (ho : Blk wy (w.heap.size + 2) 60 #[.string t'.a, .string t'.b, .string t'.c, .string t'.d, .string t'.e, .string t'.f]) (hs : t'.short) : UInv tp w wy p n c t' := by
  have := h.tl
  exact ⟨h.box.keeps hk (by omega), h.res.keeps hk (by omega), ho, h.ids.keeps hk (by omega), h.tape.keeps hk (fun j hj e => by omega), h.on.step hk (fun j e => .inr (by omega)), h.tl, hs⟩
theorem UInv.far {b : Nat} (h : UInv tp w wx p n c t) (hk : Keeps (fun j => j = b) wx wy) (hb : w.heap.size + 4 ≤ b) : UInv tp w wy p n c t := by
  have := h.tl
  exact ⟨h.box.keeps hk (by omega), h.res.keeps hk (by omega), h.out.keeps hk (by omega), h.ids.keeps hk (by omega), h.tape.keeps hk (fun j hj e => by omega), h.on.step hk (fun j e => .inr (by omega)), h.tl, h.short⟩
theorem put2 {V : World} {B : Nat} {T : TypeId} {z : Array Value} (hz : z.size = 2) (hr : Blk V B T z) (v0 v1 : Value) : ∃ W, (V.setCell ⟨B, 0, none⟩ v0).setCell ⟨B, 1, none⟩ v1 = W ∧ Blk W B T #[v0, v1] ∧ Keeps (fun j => j = B) V W := by
  have hk : Keeps (fun j => j = B) V ((V.setCell ⟨B, 0, none⟩ v0).setCell ⟨B, 1, none⟩ v1) := ((Keeps.refl (fun j => j = B) V).setCell (p := ⟨B, 0, none⟩) (.inl rfl) _).setCell (p := ⟨B, 1, none⟩) (.inl rfl) _
  refine ⟨_, rfl, ?_, hk⟩
  have := (hr.set_ 0 v0).set_ 1 v1
  have e : (z.setIfInBounds 0 v0).setIfInBounds 1 v1 = #[v0, v1] := by
    obtain ⟨l⟩ := z
    match l, hz with
    | [_, _], _ => rfl
  rw [e] at this; exact this
theorem UInv.ab (h : UInv tp w wx p n c t) (a b : ByteArray) (ha : a.size ≤ 10) (hb : b.size ≤ 10) : ∃ W, (wx.setCell ⟨w.heap.size + 2, 0, none⟩ (.string a)).setCell ⟨w.heap.size + 2, 1, none⟩ (.string b) = W ∧ UInv tp w W p n c { t with a := a, b := b } ∧ Keeps (fun j => j = w.heap.size + 2) wx W := by
  have hk : Keeps (fun j => j = w.heap.size + 2) wx ((wx.setCell ⟨w.heap.size + 2, 0, none⟩ (.string a)).setCell ⟨w.heap.size + 2, 1, none⟩ (.string b)) := ((Keeps.refl (fun j => j = w.heap.size + 2) wx).setCell (p := ⟨w.heap.size + 2, 0, none⟩) (.inl rfl) _).setCell (p := ⟨w.heap.size + 2, 1, none⟩) (.inl rfl) _
  exact ⟨_, rfl, h.put hk (((h.out.set_ 0 (.string a)).set_ 1 (.string b))) ⟨ha, hb, h.short.2.2⟩, hk⟩
theorem UInv.de (h : UInv tp w wx p n c t) (a b : ByteArray) (ha : a.size ≤ 10) (hb : b.size ≤ 10) : ∃ W, (wx.setCell ⟨w.heap.size + 2, 3, none⟩ (.string a)).setCell ⟨w.heap.size + 2, 4, none⟩ (.string b) = W ∧ UInv tp w W p n c { t with d := a, e := b } ∧ Keeps (fun j => j = w.heap.size + 2) wx W := by
  have hk : Keeps (fun j => j = w.heap.size + 2) wx ((wx.setCell ⟨w.heap.size + 2, 3, none⟩ (.string a)).setCell ⟨w.heap.size + 2, 4, none⟩ (.string b)) := ((Keeps.refl (fun j => j = w.heap.size + 2) wx).setCell (p := ⟨w.heap.size + 2, 3, none⟩) (.inl rfl) _).setCell (p := ⟨w.heap.size + 2, 4, none⟩) (.inl rfl) _
  exact ⟨_, rfl, h.put hk (((h.out.set_ 3 (.string a)).set_ 4 (.string b))) ⟨h.short.1, h.short.2.1, h.short.2.2.1, ha, hb, h.short.2.2.2.2.2⟩, hk⟩
theorem UInv.c_ (h : UInv tp w wx p n c t) (a : ByteArray) (ha : a.size ≤ 10) : ∃ W, wx.setCell ⟨w.heap.size + 2, 2, none⟩ (.string a) = W ∧ UInv tp w W p n c { t with c := a } ∧ Keeps (fun j => j = w.heap.size + 2) wx W := by
  have hk : Keeps (fun j => j = w.heap.size + 2) wx (wx.setCell ⟨w.heap.size + 2, 2, none⟩ (.string a)) := (Keeps.refl (fun j => j = w.heap.size + 2) wx).setCell (p := ⟨w.heap.size + 2, 2, none⟩) (.inl rfl) _
  exact ⟨_, rfl, h.put hk (h.out.set_ 2 (.string a)) ⟨h.short.1, h.short.2.1, ha, h.short.2.2.2⟩, hk⟩
theorem UInv.f_ (h : UInv tp w wx p n c t) (a : ByteArray) (ha : a.size ≤ 10) : ∃ W, wx.setCell ⟨w.heap.size + 2, 5, none⟩ (.string a) = W ∧ UInv tp w W p n c { t with f := a } ∧ Keeps (fun j => j = w.heap.size + 2) wx W := by
  have hk : Keeps (fun j => j = w.heap.size + 2) wx (wx.setCell ⟨w.heap.size + 2, 5, none⟩ (.string a)) := (Keeps.refl (fun j => j = w.heap.size + 2) wx).setCell (p := ⟨w.heap.size + 2, 5, none⟩) (.inl rfl) _
  exact ⟨_, rfl, h.put hk (h.out.set_ 5 (.string a)) ⟨h.short.1, h.short.2.1, h.short.2.2.1, h.short.2.2.2.1, h.short.2.2.2.2.1, ha⟩, hk⟩
end
/-- the names of a type's relations, in memory -/
def RelRow (B L : Nat) (w : World) (q : Option Addr) (n : Nat) : Prop := n ≤ 4 ∧ L ≤ w.heap.size ∧ ∀ k, k < n → ∃ (g : Nat) (M : ByteArray), q = some ⟨g, 0, none⟩ ∧ B ≤ g ∧ g < L ∧ w.cell? ⟨g, k * 5, none⟩ = some (.string M) ∧ M.size ≤ 10
theorem RelRow.keeps {B L : Nat} {w w' : World} {q : Option Addr} {n : Nat} {S : Nat → Prop} (h : RelRow B L w q n) (hk : Keeps S w w') (hs : ∀ j, B ≤ j → j < L → ¬ S j) : RelRow B L w' q n := ⟨h.1, Nat.le_trans h.2.1 hk.size, fun k hk' => by
  obtain ⟨g, M, h1, h2, h3, h4, h5⟩ := h.2.2 k hk'
  exact ⟨g, M, h1, h2, h3, (hk.cell (p := ⟨g, k * 5, none⟩) (Nat.lt_of_lt_of_le h3 h.2.1) (hs g h2 h3)).trans h4, h5⟩⟩
theorem Made.at_ {B : Nat} {w : World} {p : Option Addr} {c : Nat} {us : List Value} {ts : List TyD} (h : Made B w (.slice p ts.length c) us ts) (hok : TsOk ts) {k : Nat} (hk : k < ts.length) :
    ∃ (g : Nat) (N : ByteArray) (q : Option Addr) (n2 cc : Nat), p = some ⟨g, 0, none⟩ ∧ B ≤ g ∧ g < w.heap.size ∧ w.cell? ⟨g, k * 2, none⟩ = some (.string N) ∧ w.cell? ⟨g, k * 2 + 1, none⟩ = some (.slice q n2 cc) ∧ N.size ≤ 10 ∧ RelRow B w.heap.size w q n2 := by
  obtain ⟨g, c', e, _, hg, hcell⟩ := h.row.cell (by omega)
  injection e with e1 _ _
  have ht : ts[k]? = some ts[k] := List.getElem?_eq_getElem hk
  have hku : k < us.length := by rw [h.len]; exact hk
  have hu : us[k]? = some us[k] := List.getElem?_eq_getElem hku
  obtain ⟨cs, h1, h2, h3⟩ := h.rels k _ _ ht hu
  obtain ⟨q, cc, hq⟩ := h1.slice
  have hd := drop_ycells k ts us _ _ h.len ht hu
  have hcl : ∀ j u, j < 2 → [strV ts[k].1, us[k]][j]? = some u → w.cell? ⟨g, k * 2 + j, none⟩ = some u := fun j u hj hu => by
    rw [← hd, List.getElem?_take, if_pos hj, List.getElem?_drop] at hu
    exact hcell _ u hu
  have hm := hok _ (List.mem_of_getElem? ht)
  obtain ⟨Nn, eN, dN⟩ : ∃ Q : ByteArray, strV ts[k].1 = .string Q ∧ Q.data.toList = ts[k].1 := ⟨⟨ts[k].1.toArray⟩, rfl, rfl⟩
  have c0 := hcl 0 _ (by decide) rfl
  have c1 := hcl 1 _ (by decide) rfl
  rw [eN] at c0
  rw [hq] at c1 h1 h2
  refine ⟨g, Nn, q, ts[k].2.length, cc, e1, h.low g (by rw [e1]; rfl), hg, c0, c1, by rw [← size_data, dN]; exact hm.1, hm.2.1, Nat.le_refl _, fun i hi => ?_⟩
  obtain ⟨g2, c2, e2, _, hg2, hcell2⟩ := h1.cell (by omega)
  injection e2 with e3 _ _
  have hr : ts[k].2[i]? = some (ts[k].2[i].1, ts[k].2[i].2) := List.getElem?_eq_getElem hi
  obtain ⟨rc, hrc, _⟩ := h3.part i _ _ hr
  obtain ⟨M, eM, dM⟩ : ∃ Q : ByteArray, strV ts[k].2[i].1 = .string Q ∧ Q.data.toList = ts[k].2[i].1 := ⟨⟨ts[k].2[i].1.toArray⟩, rfl, rfl⟩
  have c3 : w.cell? ⟨g2, i * 5 + 0, none⟩ = some (strV ts[k].2[i].1) := by
    have hu : ((cs.drop (i * 5)).take 5)[0]? = some (strV ts[k].2[i].1) := by rw [hrc]; rfl
    rw [List.getElem?_take, if_pos (by decide), List.getElem?_drop] at hu
    exact hcell2 _ _ hu
  rw [eM, Nat.add_zero] at c3
  exact ⟨g2, M, e3, h2 g2 (by rw [e3]; rfl), hg2, c3, by rw [← size_data, dM]; exact (hm.2.2 _ (List.mem_of_getElem? hr)).1⟩
end Go.Proofs.YtaikedlkkjnffaaGreatDoor
namespace Go.Proofs.YtaikedlkkjnffaaGreatDoor
open Go.RowKit
def TupleSaid (tp : Nat) (w : World) (e : Ending) (w' : World) : Prop := ∃ t : Tup, e = .returned t.v ∧ t.short ∧ TapeAt w' tp ∧ OnTape tp w w'
/-- a type that was picked, at a place of its own -/
def Picked (tp B : Nat) (w wx : World) (p : Option Addr) (n c : Nat) (t : Tup) (v : Value) : Prop := ∃ (bx : Nat) (N : ByteArray) (q : Option Addr) (n2 cc : Nat), v = .pointer (some ⟨bx, 0, none⟩) ∧ Blk wx bx 96 #[.string N, .slice q n2 cc] ∧ w.heap.size + 4 ≤ bx ∧ N.size ≤ 10 ∧ RelRow B w.heap.size wx q n2 ∧ UInv tp w wx p n c t
theorem put6 {V : World} {B : Nat} {T : TypeId} {z : Array Value} (hz : z.size = 6) (hr : Blk V B T z) (t : Tup) :
    ∃ W, ((((((V.setCell ⟨B, 0, none⟩ (.string t.a)).setCell ⟨B, 1, none⟩ (.string t.b)).setCell ⟨B, 2, none⟩ (.string t.c)).setCell ⟨B, 3, none⟩ (.string t.d)).setCell ⟨B, 4, none⟩ (.string t.e)).setCell ⟨B, 5, none⟩ (.string t.f)) = W ∧ Blk W B T #[.string t.a, .string t.b, .string t.c, .string t.d, .string t.e, .string t.f] ∧ Keeps (fun j => j = B) V W := by
  have hk : Keeps (fun j => j = B) V ((((((V.setCell ⟨B, 0, none⟩ (.string t.a)).setCell ⟨B, 1, none⟩ (.string t.b)).setCell ⟨B, 2, none⟩ (.string t.c)).setCell ⟨B, 3, none⟩ (.string t.d)).setCell ⟨B, 4, none⟩ (.string t.e)).setCell ⟨B, 5, none⟩ (.string t.f)) :=
    ((((((Keeps.refl (fun j => j = B) V).setCell (p := ⟨B, 0, none⟩) (.inl rfl) _).setCell (p := ⟨B, 1, none⟩) (.inl rfl) _).setCell (p := ⟨B, 2, none⟩) (.inl rfl) _).setCell (p := ⟨B, 3, none⟩) (.inl rfl) _).setCell (p := ⟨B, 4, none⟩) (.inl rfl) _).setCell (p := ⟨B, 5, none⟩) (.inl rfl) _
  exact ⟨_, rfl, hr.six hz t, hk⟩
set_option maxHeartbeats 8000000 in
set_option maxRecDepth 100000 in
theorem tuple_calls (tp B : Nat) (p : Option Addr) (c : Nat) (us : List Value) (ts : List TyD) (w : World) (hT : TapeAt w tp) (hM : Made B w (.slice p ts.length c) us ts) (hok : TsOk ts) (hn0 : ts.length ≠ 0) (hn : ts.length ≤ 3) (htB : tp < B) :
    Calls Tryz.prog 40 #[.pointer (some ⟨tp, 0, none⟩), .agg #[.slice p ts.length c]] w (TupleSaid tp w) := by
  have htl := hT.lt
  have hN3 := Lib.hid (show ∀ W, TapeAt W tp → Calls Tryz.prog 37 #[.pointer (some ⟨tp, 0, none⟩), .int .i64 3] W (NextSaid 3 tp W) from fun W h => next_calls 3 tp W (by omega) h)
  have hNn := Lib.hid (fun (n : Nat) (W : World) (hn : n ≤ 10) (h : TapeAt W tp) => next_calls n tp W (by omega) h)
  have b1 := (Below.refl w.heap.size w).alloc (Nat.le_refl _) (.cells #[.slice p ts.length c] 56)
  have b2 := b1.alloc (by simp) (.cells zero6 60)
  have b3 := b2.alloc (by simp; omega) (.cells #[.string tupD.a, .string tupD.b, .string tupD.c, .string tupD.d, .string tupD.e, .string tupD.f] 60)
  have b4 := b3.alloc (by simp; omega) (.cells ids3 9)
  have X1 := (((Blk.new w 56 #[.slice p ts.length c]).alloc (.cells zero6 60)).alloc (.cells #[.string tupD.a, .string tupD.b, .string tupD.c, .string tupD.d, .string tupD.e, .string tupD.f] 60)).alloc (.cells ids3 9)
  have X2 := ((Blk.new (w.alloc (.cells #[.slice p ts.length c] 56)) 60 zero6).alloc (.cells #[.string tupD.a, .string tupD.b, .string tupD.c, .string tupD.d, .string tupD.e, .string tupD.f] 60)).alloc (.cells ids3 9)
  have X3 := (Blk.new ((w.alloc (.cells #[.slice p ts.length c] 56)).alloc (.cells zero6 60)) 60 #[.string tupD.a, .string tupD.b, .string tupD.c, .string tupD.d, .string tupD.e, .string tupD.f]).alloc (.cells ids3 9)
  have X4 := Blk.new (((w.alloc (.cells #[.slice p ts.length c] 56)).alloc (.cells zero6 60)).alloc (.cells #[.string tupD.a, .string tupD.b, .string tupD.c, .string tupD.d, .string tupD.e, .string tupD.f] 60)) 9 ids3
  simp only [World.size_alloc] at X2 X3 X4
  obtain ⟨W0, eW0⟩ : ∃ W0, (((w.alloc (.cells #[.slice p ts.length c] 56)).alloc (.cells #[.string ⟨#[]⟩, .string ⟨#[]⟩, .string ⟨#[]⟩, .string ⟨#[]⟩, .string ⟨#[]⟩, .string ⟨#[]⟩] 60)).alloc (.cells #[.string ⟨#[100, 111, 99]⟩, .string ⟨#[49]⟩, .string ⟨#[118, 105, 101, 119, 101, 114]⟩, .string ⟨#[117, 115, 101, 114]⟩, .string ⟨#[49]⟩, .string ⟨#[]⟩] 60)).alloc (.cells #[.string ⟨#[49]⟩, .string ⟨#[50]⟩, .string ⟨#[51]⟩] 9) = W0 := ⟨_, rfl⟩
  have U0 : Hid (UInv tp w W0 p ts.length c tupD) := by
    rw [← eW0]
    exact Lib.hid ⟨X1, X2, X3, X4, hT.later b4, .of_below b4, htl, by decide, by decide, by decide, by decide, by decide, by decide⟩
  have hAt := Lib.hid (fun (k : Nat) (hk : k < ts.length) => hM.at_ hok hk)
  have hpf : ts.length ≠ 0 → ∃ g0, p = some ⟨g0, 0, none⟩ := fun h => by
    obtain ⟨g0, _, e, _⟩ := hM.row.cell (by omega)
    injection e with e1 _ _
    exact ⟨g0, e1⟩
  clear b1 b2 b3 b4 X1 X2 X3 X4 hT hM hok
  have hlen : ts.length ≤ 3 := hn
  generalize hn1 : ts.length = n1 at *
  clear hn1
  by_cases h0 : n1 = 0
  · exact absurd h0 hn0
  · obtain ⟨g0, rfl⟩ := hpf h0
    clear hpf
    obtain ⟨hg1, hg0⟩ : g0 < w.heap.size ∧ ¬ g0 = tp := by
      obtain ⟨g, _, _, _, _, eg, h1, h2, _⟩ := hAt.out 0 (by omega)
      cases eg
      exact ⟨h2, by omega⟩
    go_enter Tryz.func40, Tryz.ntmps40
    have h0' : ((n1 : Int) == 0) = false := by rw [beq_eq_false_iff_ne]; omega
    go_upto_region 5 with fail
    have bc := U0.out.box.cell
    have bl := U0.out.box.lt
    go_cut [7] from 19 (fun v wx => Picked tp B w wx (some ⟨g0, 0, none⟩) n1 c tupD v)
    case first =>
      have Z1 := Blk.new W0 96 #[.string ⟨#[]⟩, .slice none 0 0]
      have bz := (Below.refl W0.heap.size W0).alloc (Nat.le_refl _) (.cells #[.string ⟨#[]⟩, .slice none 0 0] 96)
      have hz1 : w.heap.size + 4 ≤ W0.heap.size := by have := U0.out.ids.lt; omega
      have sA := Lib.hid (U0.out.later (Below.refl _ _).drew)
      have sB := Lib.hid (U0.out.later bz)
      have sC := Lib.hid ((U0.out.later bz).later (Below.refl _ _).drew)
      have sD := Lib.hid ((U0.out.later (Below.refl _ _).drew).later ((Below.refl _ _).alloc (Nat.le_refl _) (.cells #[.string ⟨#[]⟩, .slice none 0 0] 96)))
      go_region_held3 (fun w' => (∀ i, w'.cell? ⟨w.heap.size, i, none⟩ = (#[.slice (some ⟨g0, 0, none⟩) n1 c] : Array Value)[i]?) ∧ ∀ i, w'.cell? ⟨g0, i, none⟩ = w.cell? ⟨g0, i, none⟩) (first | exact U0.out.sees hg0 hg1 | exact sA.out.sees hg0 hg1 | exact sB.out.sees hg0 hg1 | exact sC.out.sees hg0 hg1 | exact sD.out.sees hg0 hg1 | exact s3.out.sees hg0 hg1 | exact s4.out.sees hg0 hg1 | exact s5.out.sees hg0 hg1) (first
        | (go_at_call 37; (with_reducible refine (hNn.out n1 _ (by omega) (U0.out.tape.later (Below.refl _ _).drew)).mono ?_); rintro e w3 ⟨k, rfl, hk, hT3, hk3⟩; (have hkn : k < n1 := by omega); (have U3 := (U0.out.later (Below.refl _ _).drew).step hk3 hT3); (obtain ⟨g, N, q, n2, cc, eg, hgB, hgl, c0w, c1w, hN10, hRRw⟩ := hAt.out k hkn); cases eg; (have c0 := (U3.on.cell (p := ⟨g0, k * 2, none⟩) hgl (show ¬ g0 = tp by omega)).trans c0w); (have c1 := (U3.on.cell (p := ⟨g0, k * 2 + 1, none⟩) hgl (show ¬ g0 = tp by omega)).trans c1w); (have gl3 : g0 < w3.heap.size := by have := U3.on.size; omega); (have hRR := hRRw.keeps U3.on (fun j hj _ e => by omega)); (have b3 := U3.box.cell); (have s3 := Lib.hid U3); (have bA := (Below.refl w3.heap.size w3).alloc (Nat.le_refl _) (.cells #[.string N, .slice q n2 cc] 96)); (have hP := Lib.hid (show Picked tp B w (w3.alloc (.cells #[.string N, .slice q n2 cc] 96)) (some ⟨g0, 0, none⟩) n1 c tupD (.pointer (some ⟨w3.heap.size, 0, none⟩)) from ⟨_, N, q, n2, cc, rfl, Blk.new _ _ _, (by have := U3.ids.lt; omega), hN10, hRR.keeps (S := fun _ => False) (.of_below bA) (fun _ _ _ => id), U3.later bA⟩)); (have s4 := Lib.hid (U3.later bA)); (have s5 := Lib.hid (U3.later ((Below.refl _ _).alloc (Nat.le_refl _) (.cells #[.string ⟨#[]⟩, .slice none 0 0] 96)))); clear hk hT3 hk3 U3 hRR bA hRRw)
        | (go_at_call 37; (with_reducible refine (hNn.out n1 _ (by omega) ((U0.out.later bz).tape.later (Below.refl _ _).drew)).mono ?_); rintro e w3 ⟨k, rfl, hk, hT3, hk3⟩; (have hkn : k < n1 := by omega); (have U3 := ((U0.out.later bz).later (Below.refl _ _).drew).step hk3 hT3); (obtain ⟨g, N, q, n2, cc, eg, hgB, hgl, c0w, c1w, hN10, hRRw⟩ := hAt.out k hkn); cases eg; (have c0 := (U3.on.cell (p := ⟨g0, k * 2, none⟩) hgl (show ¬ g0 = tp by omega)).trans c0w); (have c1 := (U3.on.cell (p := ⟨g0, k * 2 + 1, none⟩) hgl (show ¬ g0 = tp by omega)).trans c1w); (have gl3 : g0 < w3.heap.size := by have := U3.on.size; omega); (have hRR := hRRw.keeps U3.on (fun j hj _ e => by omega)); (have b3 := U3.box.cell); (have s3 := Lib.hid U3); (have Z3 := Z1.drew.keeps hk3 (by omega)); (have z3 := Z3.cell); (have zf := Z3.frozen); (have zl := Z3.lt); (obtain ⟨W, eW, ZW, kW⟩ := put2 rfl Z3 (.string N) (.slice q n2 cc)); (have hP := Lib.hid (show Picked tp B w W (some ⟨g0, 0, none⟩) n1 c tupD (.pointer (some ⟨W0.heap.size, 0, none⟩)) from ⟨_, N, q, n2, cc, rfl, ZW, hz1, hN10, hRR.keeps kW (fun j hj hl e => by omega), U3.far kW hz1⟩)); (have s4 := Lib.hid (U3.far kW hz1)); clear hk hT3 hk3 U3 hRR hRRw Z3 ZW kW))
      all_goals
        go_wp2_with fail
        go_meet
        exact hP.out
    case rest =>
      obtain ⟨bx1, N1, q1, m1, cc1, rfl, hX1, hbx1, hN101, hRR1, hU1⟩ := hcut
      have V1 := Lib.hid hX1
      have R1 := Lib.hid hRR1
      have U1 := Lib.hid hU1
      clear hX1 hRR1 hU1
      have xc := V1.out.cell
      have xl := V1.out.lt
      go_upto_region 6 with fail
      go_cut [34] from 28 (fun _ wx => ∃ t', Blk wx bx1 96 #[.string N1, .slice q1 m1 cc1] ∧ RelRow B w.heap.size wx q1 m1 ∧ UInv tp w wx (some ⟨g0, 0, none⟩) n1 c t')
      case first =>
        go_region_with (go_at_call 37; (with_reducible refine (hN3.out _ (U1.out.tape.later (Below.refl _ _).drew)).mono ?_); rintro e w3 ⟨k, rfl, hk, hT3, hk3⟩; (have hkn : k < 3 := by omega); (have hkn' : (k : Int) < 3 := by omega); (obtain ⟨s, hs, hs10⟩ := ids3_at k hkn); (have U3 := (U1.out.later (Below.refl _ _).drew).step hk3 hT3); (have d3 := (U3.ids.cell k).trans hs); (have dl := U3.ids.lt); (have x3 := ((V1.out.drew).keeps hk3 (by have := U1.out.tl; omega))); (have x3c := x3.cell); (have o3 := U3.out.cell); (have of3 := U3.out.frozen); (have ol3 := U3.out.lt); (obtain ⟨W, eW, UW, kW⟩ := U3.ab N1 s hN101 hs10); (have hP := Lib.hid (show ∃ t', Blk W bx1 96 #[.string N1, .slice q1 m1 cc1] ∧ RelRow B w.heap.size W q1 m1 ∧ UInv tp w W (some ⟨g0, 0, none⟩) n1 c t' from ⟨_, x3.keeps kW (by omega), ((R1.out.keeps ((Keeps.refl (fun j => j = tp) _).drew.trans hk3) (fun j hj _ e => by omega)).keeps kW (fun j hj hl e => by omega)), UW⟩)); clear hk hT3 hk3 U3 x3 UW kW hs)
        all_goals
          go_wp2_with fail
          go_meet
          exact hP.out
      case rest =>
        obtain ⟨t1, hX, hRR, hU⟩ := hcut
        have V1b := Lib.hid hX
        have R1b := Lib.hid hRR
        have U1b := Lib.hid hU
        clear hX hRR hU V1 R1 U1
        have xc := V1b.out.cell
        have xl := V1b.out.lt
        by_cases hm1 : m1 = 0
        · subst hm1
          clear xl
          have bc := U1b.out.box.cell
          have bl := U1b.out.box.lt
          go_upto_region 9 with fail
          go_cut [8] from 52 (fun v wx => Picked tp B w wx (some ⟨g0, 0, none⟩) n1 c t1 v)
          case first =>
            have Z1 := Blk.new wc 96 #[.string ⟨#[]⟩, .slice none 0 0]
            have bz := (Below.refl wc.heap.size wc).alloc (Nat.le_refl _) (.cells #[.string ⟨#[]⟩, .slice none 0 0] 96)
            have hz1 : w.heap.size + 4 ≤ wc.heap.size := by have := U1b.out.ids.lt; omega
            have sA := Lib.hid (U1b.out.later (Below.refl _ _).drew)
            have sB := Lib.hid (U1b.out.later bz)
            have sC := Lib.hid ((U1b.out.later bz).later (Below.refl _ _).drew)
            have sD := Lib.hid ((U1b.out.later (Below.refl _ _).drew).later ((Below.refl _ _).alloc (Nat.le_refl _) (.cells #[.string ⟨#[]⟩, .slice none 0 0] 96)))
            go_region_held3 (fun w' => (∀ i, w'.cell? ⟨w.heap.size, i, none⟩ = (#[.slice (some ⟨g0, 0, none⟩) n1 c] : Array Value)[i]?) ∧ ∀ i, w'.cell? ⟨g0, i, none⟩ = w.cell? ⟨g0, i, none⟩) (first | exact U1b.out.sees hg0 hg1 | exact sA.out.sees hg0 hg1 | exact sB.out.sees hg0 hg1 | exact sC.out.sees hg0 hg1 | exact sD.out.sees hg0 hg1 | exact s3.out.sees hg0 hg1 | exact s4.out.sees hg0 hg1 | exact s5.out.sees hg0 hg1) (first
              | (go_at_call 37; (with_reducible refine (hNn.out n1 _ (by omega) (U1b.out.tape.later (Below.refl _ _).drew)).mono ?_); rintro e w3 ⟨k, rfl, hk, hT3, hk3⟩; (have hkn : k < n1 := by omega); (have U3 := (U1b.out.later (Below.refl _ _).drew).step hk3 hT3); (obtain ⟨g, N, q, n2, cc, eg, hgB, hgl, c0w, c1w, hN10, hRRw⟩ := hAt.out k hkn); cases eg; (have c0 := (U3.on.cell (p := ⟨g0, k * 2, none⟩) hgl (show ¬ g0 = tp by omega)).trans c0w); (have c1 := (U3.on.cell (p := ⟨g0, k * 2 + 1, none⟩) hgl (show ¬ g0 = tp by omega)).trans c1w); (have gl3 : g0 < w3.heap.size := by have := U3.on.size; omega); (have hRR := hRRw.keeps U3.on (fun j hj _ e => by omega)); (have b3 := U3.box.cell); (have s3 := Lib.hid U3); (have bA := (Below.refl w3.heap.size w3).alloc (Nat.le_refl _) (.cells #[.string N, .slice q n2 cc] 96)); (have hP := Lib.hid (show Picked tp B w (w3.alloc (.cells #[.string N, .slice q n2 cc] 96)) (some ⟨g0, 0, none⟩) n1 c t1 (.pointer (some ⟨w3.heap.size, 0, none⟩)) from ⟨_, N, q, n2, cc, rfl, Blk.new _ _ _, (by have := U3.ids.lt; omega), hN10, hRR.keeps (S := fun _ => False) (.of_below bA) (fun _ _ _ => id), U3.later bA⟩)); (have s4 := Lib.hid (U3.later bA)); (have s5 := Lib.hid (U3.later ((Below.refl _ _).alloc (Nat.le_refl _) (.cells #[.string ⟨#[]⟩, .slice none 0 0] 96)))); clear hk hT3 hk3 U3 hRR bA hRRw)
              | (go_at_call 37; (with_reducible refine (hNn.out n1 _ (by omega) ((U1b.out.later bz).tape.later (Below.refl _ _).drew)).mono ?_); rintro e w3 ⟨k, rfl, hk, hT3, hk3⟩; (have hkn : k < n1 := by omega); (have U3 := ((U1b.out.later bz).later (Below.refl _ _).drew).step hk3 hT3); (obtain ⟨g, N, q, n2, cc, eg, hgB, hgl, c0w, c1w, hN10, hRRw⟩ := hAt.out k hkn); cases eg; (have c0 := (U3.on.cell (p := ⟨g0, k * 2, none⟩) hgl (show ¬ g0 = tp by omega)).trans c0w); (have c1 := (U3.on.cell (p := ⟨g0, k * 2 + 1, none⟩) hgl (show ¬ g0 = tp by omega)).trans c1w); (have gl3 : g0 < w3.heap.size := by have := U3.on.size; omega); (have hRR := hRRw.keeps U3.on (fun j hj _ e => by omega)); (have b3 := U3.box.cell); (have s3 := Lib.hid U3); (have Z3 := Z1.drew.keeps hk3 (by omega)); (have z3 := Z3.cell); (have zf := Z3.frozen); (have zl := Z3.lt); (obtain ⟨W, eW, ZW, kW⟩ := put2 rfl Z3 (.string N) (.slice q n2 cc)); (have hP := Lib.hid (show Picked tp B w W (some ⟨g0, 0, none⟩) n1 c t1 (.pointer (some ⟨wc.heap.size, 0, none⟩)) from ⟨_, N, q, n2, cc, rfl, ZW, hz1, hN10, hRR.keeps kW (fun j hj hl e => by omega), U3.far kW hz1⟩)); (have s4 := Lib.hid (U3.far kW hz1)); clear hk hT3 hk3 U3 hRR hRRw Z3 ZW kW))
            all_goals
              go_wp2_with fail
              go_meet
              exact hP.out
          case rest =>
            obtain ⟨bx5, N5, q5, m5, cc5, rfl, hX5, hbx5, hN105, hRR5, hU5⟩ := hcut
            have V5 := Lib.hid hX5
            have R5 := Lib.hid hRR5
            have U5 := Lib.hid hU5
            clear hX5 hRR5 hU5
            have xc := V5.out.cell
            have xl := V5.out.lt
            go_upto_region 10 with fail
            go_cut [67] from 61 (fun _ wx => ∃ t', Blk wx bx5 96 #[.string N5, .slice q5 m5 cc5] ∧ RelRow B w.heap.size wx q5 m5 ∧ UInv tp w wx (some ⟨g0, 0, none⟩) n1 c t')
            case first =>
              go_region_with (go_at_call 37; (with_reducible refine (hN3.out _ (U5.out.tape.later (Below.refl _ _).drew)).mono ?_); rintro e w3 ⟨k, rfl, hk, hT3, hk3⟩; (have hkn : k < 3 := by omega); (have hkn' : (k : Int) < 3 := by omega); (obtain ⟨s, hs, hs10⟩ := ids3_at k hkn); (have U3 := (U5.out.later (Below.refl _ _).drew).step hk3 hT3); (have d3 := (U3.ids.cell k).trans hs); (have dl := U3.ids.lt); (have x3 := ((V5.out.drew).keeps hk3 (by have := U5.out.tl; omega))); (have x3c := x3.cell); (have o3 := U3.out.cell); (have of3 := U3.out.frozen); (have ol3 := U3.out.lt); (obtain ⟨W, eW, UW, kW⟩ := U3.de N5 s hN105 hs10); (have hP := Lib.hid (show ∃ t', Blk W bx5 96 #[.string N5, .slice q5 m5 cc5] ∧ RelRow B w.heap.size W q5 m5 ∧ UInv tp w W (some ⟨g0, 0, none⟩) n1 c t' from ⟨_, x3.keeps kW (by omega), ((R5.out.keeps ((Keeps.refl (fun j => j = tp) _).drew.trans hk3) (fun j hj _ e => by omega)).keeps kW (fun j hj hl e => by omega)), UW⟩)); clear hk hT3 hk3 U3 x3 UW kW hs)
              all_goals
                go_wp2_with fail
                go_meet
                exact hP.out
            case rest =>
              obtain ⟨t5, hX, hRR, hU⟩ := hcut
              have V5b := Lib.hid hX
              have R5b := Lib.hid hRR
              have U5b := Lib.hid hU
              clear hX hRR hU V5 R5 U5
              have xc := V5b.out.cell
              have xl := V5b.out.lt
              by_cases hm5 : m5 = 0
              · subst hm5
                clear xl
                have oc := U5b.out.out.cell
                have ol := U5b.out.out.lt
                have rc := U5b.out.res.cell
                have rf := U5b.out.res.frozen
                have rl := U5b.out.res.lt
                unfold zero6 at rc
                obtain ⟨W, eW, hBW, hKW⟩ := put6 rfl U5b.out.res t5
                have hW' := Lib.hid (And.intro hBW hKW)
                clear hBW hKW
                go_wp2_with fail
                have c5 := hW'.out.1.cell
                refine bodyPost_ret (v := t5.v) (by simp [results, Tryz.results40, go_sem, c5, Tup.v]) rfl ?_
                exact ⟨t5, rfl, U5b.out.short, U5b.out.tape.keeps hW'.out.2 (fun j hj e => by have := U5b.out.tl; omega), U5b.out.on.step hW'.out.2 (fun j e => .inr (by omega))⟩
              · have hm5' : decide ((m5 : Int) > 0) = true := decide_eq_true (by omega)
                have hm5p : 0 < m5 := by omega
                have hm5q : decide (0 < m5) = true := decide_eq_true hm5p
                go_wp2_with fail
                refine (hN3.out _ U5b.out.tape).mono ?_
                rintro e w4 ⟨k4, rfl, _, hT4, hk4⟩
                have V5c := Lib.hid (V5b.out.keeps hk4 (by have := U5b.out.tl; omega))
                have R5c := Lib.hid (R5b.out.keeps hk4 (fun j hj _ e => by omega))
                have U5c := Lib.hid (U5b.out.step hk4 hT4)
                clear hT4 hk4 V5b R5b U5b xc xl
                have V5b := V5c
                have R5b := R5c
                have U5b := U5c
                clear V5c R5c U5c
                by_cases hk41 : k4 = 1
                · subst hk41
                  obtain ⟨gr5, rfl⟩ : ∃ gr, q5 = some ⟨gr, 0, none⟩ := by
                    obtain ⟨gr, _, e, _⟩ := R5b.out.2.2 0 (by omega)
                    exact ⟨gr, e⟩
                  have hm4 := R5b.out.1
                  have xc := V5b.out.cell
                  have xl := V5b.out.lt
                  go_upto_region 12 with fail
                  go_cut [89] from 80 (fun _ wx => ∃ t', UInv tp w wx (some ⟨g0, 0, none⟩) n1 c t')
                  case first =>
                    go_region_with (go_at_call 37; (with_reducible refine (hNn.out m5 _ (by omega) (U5b.out.tape.later (Below.refl _ _).drew)).mono ?_); rintro e w3 ⟨k, rfl, hk, hT3, hk3⟩; (have hkm : k < m5 := by omega); (obtain ⟨g, M, eg, hgB, hgl, c0w, hM10⟩ := R5b.out.2.2 k hkm); cases eg; (have U3 := (U5b.out.later (Below.refl _ _).drew).step hk3 hT3); (have gl3 : gr5 < w3.heap.size := by have := U3.on.size; omega); (have c0 := (hk3.cell (p := ⟨gr5, k * 5, none⟩) (show gr5 < _ by have := R5b.out.2.1; show gr5 < w4.heap.size; omega) (show ¬ gr5 = tp by omega)).trans c0w); (have x3 := ((V5b.out.drew).keeps hk3 (by have := U5b.out.tl; omega))); (have x3c := x3.cell); (have x3l := x3.lt); (have o3 := U3.out.cell); (have of3 := U3.out.frozen); (have ol3 := U3.out.lt); (obtain ⟨W, eW, UW, kW⟩ := U3.f_ M hM10); (have hP := Lib.hid (show ∃ t', UInv tp w W (some ⟨g0, 0, none⟩) n1 c t' from ⟨_, UW⟩)); clear hk hT3 hk3 U3 x3 UW kW c0w)
                    all_goals
                      go_wp2_with fail
                      go_meet
                      exact hP.out
                  case rest =>
                    obtain ⟨t4, hU⟩ := hcut
                    have U4 := Lib.hid hU
                    clear hU V5b R5b U5b xc xl
                    have oc := U4.out.out.cell
                    have ol := U4.out.out.lt
                    have rc := U4.out.res.cell
                    have rf := U4.out.res.frozen
                    have rl := U4.out.res.lt
                    unfold zero6 at rc
                    obtain ⟨W, eW, hBW, hKW⟩ := put6 rfl U4.out.res t4
                    have hW' := Lib.hid (And.intro hBW hKW)
                    clear hBW hKW
                    go_wp2_with fail
                    have c5 := hW'.out.1.cell
                    refine bodyPost_ret (v := t4.v) (by simp [results, Tryz.results40, go_sem, c5, Tup.v]) rfl ?_
                    exact ⟨t4, rfl, U4.out.short, U4.out.tape.keeps hW'.out.2 (fun j hj e => by have := U4.out.tl; omega), U4.out.on.step hW'.out.2 (fun j e => .inr (by omega))⟩
                · have hk41' : ((k4 : Int) == 1) = false := by rw [beq_eq_false_iff_ne]; omega
                  have oc := U5b.out.out.cell
                  have ol := U5b.out.out.lt
                  have rc := U5b.out.res.cell
                  have rf := U5b.out.res.frozen
                  have rl := U5b.out.res.lt
                  unfold zero6 at rc
                  obtain ⟨W, eW, hBW, hKW⟩ := put6 rfl U5b.out.res t5
                  have hW' := Lib.hid (And.intro hBW hKW)
                  clear hBW hKW
                  go_wp2_with fail
                  have c5 := hW'.out.1.cell
                  refine bodyPost_ret (v := t5.v) (by simp [results, Tryz.results40, go_sem, c5, Tup.v]) rfl ?_
                  exact ⟨t5, rfl, U5b.out.short, U5b.out.tape.keeps hW'.out.2 (fun j hj e => by have := U5b.out.tl; omega), U5b.out.on.step hW'.out.2 (fun j e => .inr (by omega))⟩
        · have hm1' : decide ((m1 : Int) > 0) = true := decide_eq_true (by omega)
          have hm1p : 0 < m1 := by omega
          have hm1q : decide (0 < m1) = true := decide_eq_true hm1p
          obtain ⟨gr1, rfl⟩ : ∃ gr, q1 = some ⟨gr, 0, none⟩ := by
            obtain ⟨gr, _, e, _⟩ := R1b.out.2.2 0 (by omega)
            exact ⟨gr, e⟩
          have hm4 := R1b.out.1
          have xc := V1b.out.cell
          have xl := V1b.out.lt
          go_upto_region 8 with fail
          go_cut [50] from 41 (fun _ wx => ∃ t', UInv tp w wx (some ⟨g0, 0, none⟩) n1 c t')
          case first =>
            go_region_with (go_at_call 37; (with_reducible refine (hNn.out m1 _ (by omega) (U1b.out.tape.later (Below.refl _ _).drew)).mono ?_); rintro e w3 ⟨k, rfl, hk, hT3, hk3⟩; (have hkm : k < m1 := by omega); (obtain ⟨g, M, eg, hgB, hgl, c0w, hM10⟩ := R1b.out.2.2 k hkm); cases eg; (have U3 := (U1b.out.later (Below.refl _ _).drew).step hk3 hT3); (have gl3 : gr1 < w3.heap.size := by have := U3.on.size; omega); (have c0 := (hk3.cell (p := ⟨gr1, k * 5, none⟩) (show gr1 < _ by have := R1b.out.2.1; show gr1 < wc.heap.size; omega) (show ¬ gr1 = tp by omega)).trans c0w); (have x3 := ((V1b.out.drew).keeps hk3 (by have := U1b.out.tl; omega))); (have x3c := x3.cell); (have x3l := x3.lt); (have o3 := U3.out.cell); (have of3 := U3.out.frozen); (have ol3 := U3.out.lt); (obtain ⟨W, eW, UW, kW⟩ := U3.c_ M hM10); (have hP := Lib.hid (show ∃ t', UInv tp w W (some ⟨g0, 0, none⟩) n1 c t' from ⟨_, UW⟩)); clear hk hT3 hk3 U3 x3 UW kW c0w)
            all_goals
              go_wp2_with fail
              go_meet
              exact hP.out
          case rest =>
            obtain ⟨t2, hU⟩ := hcut
            have U2 := Lib.hid hU
            clear hU V1b R1b U1b xc xl
            have bc := U2.out.box.cell
            have bl := U2.out.box.lt
            go_upto_region 9 with fail
            go_cut [8] from 52 (fun v wx => Picked tp B w wx (some ⟨g0, 0, none⟩) n1 c t2 v)
            case first =>
              have Z1 := Blk.new wc 96 #[.string ⟨#[]⟩, .slice none 0 0]
              have bz := (Below.refl wc.heap.size wc).alloc (Nat.le_refl _) (.cells #[.string ⟨#[]⟩, .slice none 0 0] 96)
              have hz1 : w.heap.size + 4 ≤ wc.heap.size := by have := U2.out.ids.lt; omega
              have sA := Lib.hid (U2.out.later (Below.refl _ _).drew)
              have sB := Lib.hid (U2.out.later bz)
              have sC := Lib.hid ((U2.out.later bz).later (Below.refl _ _).drew)
              have sD := Lib.hid ((U2.out.later (Below.refl _ _).drew).later ((Below.refl _ _).alloc (Nat.le_refl _) (.cells #[.string ⟨#[]⟩, .slice none 0 0] 96)))
              go_region_held3 (fun w' => (∀ i, w'.cell? ⟨w.heap.size, i, none⟩ = (#[.slice (some ⟨g0, 0, none⟩) n1 c] : Array Value)[i]?) ∧ ∀ i, w'.cell? ⟨g0, i, none⟩ = w.cell? ⟨g0, i, none⟩) (first | exact U2.out.sees hg0 hg1 | exact sA.out.sees hg0 hg1 | exact sB.out.sees hg0 hg1 | exact sC.out.sees hg0 hg1 | exact sD.out.sees hg0 hg1 | exact s3.out.sees hg0 hg1 | exact s4.out.sees hg0 hg1 | exact s5.out.sees hg0 hg1) (first
                | (go_at_call 37; (with_reducible refine (hNn.out n1 _ (by omega) (U2.out.tape.later (Below.refl _ _).drew)).mono ?_); rintro e w3 ⟨k, rfl, hk, hT3, hk3⟩; (have hkn : k < n1 := by omega); (have U3 := (U2.out.later (Below.refl _ _).drew).step hk3 hT3); (obtain ⟨g, N, q, n2, cc, eg, hgB, hgl, c0w, c1w, hN10, hRRw⟩ := hAt.out k hkn); cases eg; (have c0 := (U3.on.cell (p := ⟨g0, k * 2, none⟩) hgl (show ¬ g0 = tp by omega)).trans c0w); (have c1 := (U3.on.cell (p := ⟨g0, k * 2 + 1, none⟩) hgl (show ¬ g0 = tp by omega)).trans c1w); (have gl3 : g0 < w3.heap.size := by have := U3.on.size; omega); (have hRR := hRRw.keeps U3.on (fun j hj _ e => by omega)); (have b3 := U3.box.cell); (have s3 := Lib.hid U3); (have bA := (Below.refl w3.heap.size w3).alloc (Nat.le_refl _) (.cells #[.string N, .slice q n2 cc] 96)); (have hP := Lib.hid (show Picked tp B w (w3.alloc (.cells #[.string N, .slice q n2 cc] 96)) (some ⟨g0, 0, none⟩) n1 c t2 (.pointer (some ⟨w3.heap.size, 0, none⟩)) from ⟨_, N, q, n2, cc, rfl, Blk.new _ _ _, (by have := U3.ids.lt; omega), hN10, hRR.keeps (S := fun _ => False) (.of_below bA) (fun _ _ _ => id), U3.later bA⟩)); (have s4 := Lib.hid (U3.later bA)); (have s5 := Lib.hid (U3.later ((Below.refl _ _).alloc (Nat.le_refl _) (.cells #[.string ⟨#[]⟩, .slice none 0 0] 96)))); clear hk hT3 hk3 U3 hRR bA hRRw)
                | (go_at_call 37; (with_reducible refine (hNn.out n1 _ (by omega) ((U2.out.later bz).tape.later (Below.refl _ _).drew)).mono ?_); rintro e w3 ⟨k, rfl, hk, hT3, hk3⟩; (have hkn : k < n1 := by omega); (have U3 := ((U2.out.later bz).later (Below.refl _ _).drew).step hk3 hT3); (obtain ⟨g, N, q, n2, cc, eg, hgB, hgl, c0w, c1w, hN10, hRRw⟩ := hAt.out k hkn); cases eg; (have c0 := (U3.on.cell (p := ⟨g0, k * 2, none⟩) hgl (show ¬ g0 = tp by omega)).trans c0w); (have c1 := (U3.on.cell (p := ⟨g0, k * 2 + 1, none⟩) hgl (show ¬ g0 = tp by omega)).trans c1w); (have gl3 : g0 < w3.heap.size := by have := U3.on.size; omega); (have hRR := hRRw.keeps U3.on (fun j hj _ e => by omega)); (have b3 := U3.box.cell); (have s3 := Lib.hid U3); (have Z3 := Z1.drew.keeps hk3 (by omega)); (have z3 := Z3.cell); (have zf := Z3.frozen); (have zl := Z3.lt); (obtain ⟨W, eW, ZW, kW⟩ := put2 rfl Z3 (.string N) (.slice q n2 cc)); (have hP := Lib.hid (show Picked tp B w W (some ⟨g0, 0, none⟩) n1 c t2 (.pointer (some ⟨wc.heap.size, 0, none⟩)) from ⟨_, N, q, n2, cc, rfl, ZW, hz1, hN10, hRR.keeps kW (fun j hj hl e => by omega), U3.far kW hz1⟩)); (have s4 := Lib.hid (U3.far kW hz1)); clear hk hT3 hk3 U3 hRR hRRw Z3 ZW kW))
              all_goals
                go_wp2_with fail
                go_meet
                exact hP.out
            case rest =>
              obtain ⟨bx5, N5, q5, m5, cc5, rfl, hX5, hbx5, hN105, hRR5, hU5⟩ := hcut
              have V5 := Lib.hid hX5
              have R5 := Lib.hid hRR5
              have U5 := Lib.hid hU5
              clear hX5 hRR5 hU5
              have xc := V5.out.cell
              have xl := V5.out.lt
              go_upto_region 10 with fail
              go_cut [67] from 61 (fun _ wx => ∃ t', Blk wx bx5 96 #[.string N5, .slice q5 m5 cc5] ∧ RelRow B w.heap.size wx q5 m5 ∧ UInv tp w wx (some ⟨g0, 0, none⟩) n1 c t')
              case first =>
                go_region_with (go_at_call 37; (with_reducible refine (hN3.out _ (U5.out.tape.later (Below.refl _ _).drew)).mono ?_); rintro e w3 ⟨k, rfl, hk, hT3, hk3⟩; (have hkn : k < 3 := by omega); (have hkn' : (k : Int) < 3 := by omega); (obtain ⟨s, hs, hs10⟩ := ids3_at k hkn); (have U3 := (U5.out.later (Below.refl _ _).drew).step hk3 hT3); (have d3 := (U3.ids.cell k).trans hs); (have dl := U3.ids.lt); (have x3 := ((V5.out.drew).keeps hk3 (by have := U5.out.tl; omega))); (have x3c := x3.cell); (have o3 := U3.out.cell); (have of3 := U3.out.frozen); (have ol3 := U3.out.lt); (obtain ⟨W, eW, UW, kW⟩ := U3.de N5 s hN105 hs10); (have hP := Lib.hid (show ∃ t', Blk W bx5 96 #[.string N5, .slice q5 m5 cc5] ∧ RelRow B w.heap.size W q5 m5 ∧ UInv tp w W (some ⟨g0, 0, none⟩) n1 c t' from ⟨_, x3.keeps kW (by omega), ((R5.out.keeps ((Keeps.refl (fun j => j = tp) _).drew.trans hk3) (fun j hj _ e => by omega)).keeps kW (fun j hj hl e => by omega)), UW⟩)); clear hk hT3 hk3 U3 x3 UW kW hs)
                all_goals
                  go_wp2_with fail
                  go_meet
                  exact hP.out
              case rest =>
                obtain ⟨t5, hX, hRR, hU⟩ := hcut
                have V5b := Lib.hid hX
                have R5b := Lib.hid hRR
                have U5b := Lib.hid hU
                clear hX hRR hU V5 R5 U5
                have xc := V5b.out.cell
                have xl := V5b.out.lt
                by_cases hm5 : m5 = 0
                · subst hm5
                  clear xl
                  have oc := U5b.out.out.cell
                  have ol := U5b.out.out.lt
                  have rc := U5b.out.res.cell
                  have rf := U5b.out.res.frozen
                  have rl := U5b.out.res.lt
                  unfold zero6 at rc
                  obtain ⟨W, eW, hBW, hKW⟩ := put6 rfl U5b.out.res t5
                  have hW' := Lib.hid (And.intro hBW hKW)
                  clear hBW hKW
                  go_wp2_with fail
                  have c5 := hW'.out.1.cell
                  refine bodyPost_ret (v := t5.v) (by simp [results, Tryz.results40, go_sem, c5, Tup.v]) rfl ?_
                  exact ⟨t5, rfl, U5b.out.short, U5b.out.tape.keeps hW'.out.2 (fun j hj e => by have := U5b.out.tl; omega), U5b.out.on.step hW'.out.2 (fun j e => .inr (by omega))⟩
                · have hm5' : decide ((m5 : Int) > 0) = true := decide_eq_true (by omega)
                  have hm5p : 0 < m5 := by omega
                  have hm5q : decide (0 < m5) = true := decide_eq_true hm5p
                  go_wp2_with fail
                  refine (hN3.out _ U5b.out.tape).mono ?_
                  rintro e w4 ⟨k4, rfl, _, hT4, hk4⟩
                  have V5c := Lib.hid (V5b.out.keeps hk4 (by have := U5b.out.tl; omega))
                  have R5c := Lib.hid (R5b.out.keeps hk4 (fun j hj _ e => by omega))
                  have U5c := Lib.hid (U5b.out.step hk4 hT4)
                  clear hT4 hk4 V5b R5b U5b xc xl
                  have V5b := V5c
                  have R5b := R5c
                  have U5b := U5c
                  clear V5c R5c U5c
                  by_cases hk41 : k4 = 1
                  · subst hk41
                    obtain ⟨gr5, rfl⟩ : ∃ gr, q5 = some ⟨gr, 0, none⟩ := by
                      obtain ⟨gr, _, e, _⟩ := R5b.out.2.2 0 (by omega)
                      exact ⟨gr, e⟩
                    have hm4 := R5b.out.1
                    have xc := V5b.out.cell
                    have xl := V5b.out.lt
                    go_upto_region 12 with fail
                    go_cut [89] from 80 (fun _ wx => ∃ t', UInv tp w wx (some ⟨g0, 0, none⟩) n1 c t')
                    case first =>
                      go_region_with (go_at_call 37; (with_reducible refine (hNn.out m5 _ (by omega) (U5b.out.tape.later (Below.refl _ _).drew)).mono ?_); rintro e w3 ⟨k, rfl, hk, hT3, hk3⟩; (have hkm : k < m5 := by omega); (obtain ⟨g, M, eg, hgB, hgl, c0w, hM10⟩ := R5b.out.2.2 k hkm); cases eg; (have U3 := (U5b.out.later (Below.refl _ _).drew).step hk3 hT3); (have gl3 : gr5 < w3.heap.size := by have := U3.on.size; omega); (have c0 := (hk3.cell (p := ⟨gr5, k * 5, none⟩) (show gr5 < _ by have := R5b.out.2.1; show gr5 < w4.heap.size; omega) (show ¬ gr5 = tp by omega)).trans c0w); (have x3 := ((V5b.out.drew).keeps hk3 (by have := U5b.out.tl; omega))); (have x3c := x3.cell); (have x3l := x3.lt); (have o3 := U3.out.cell); (have of3 := U3.out.frozen); (have ol3 := U3.out.lt); (obtain ⟨W, eW, UW, kW⟩ := U3.f_ M hM10); (have hP := Lib.hid (show ∃ t', UInv tp w W (some ⟨g0, 0, none⟩) n1 c t' from ⟨_, UW⟩)); clear hk hT3 hk3 U3 x3 UW kW c0w)
                      all_goals
                        go_wp2_with fail
                        go_meet
                        exact hP.out
                    case rest =>
                      obtain ⟨t4, hU⟩ := hcut
                      have U4 := Lib.hid hU
                      clear hU V5b R5b U5b xc xl
                      have oc := U4.out.out.cell
                      have ol := U4.out.out.lt
                      have rc := U4.out.res.cell
                      have rf := U4.out.res.frozen
                      have rl := U4.out.res.lt
                      unfold zero6 at rc
                      obtain ⟨W, eW, hBW, hKW⟩ := put6 rfl U4.out.res t4
                      have hW' := Lib.hid (And.intro hBW hKW)
                      clear hBW hKW
                      go_wp2_with fail
                      have c5 := hW'.out.1.cell
                      refine bodyPost_ret (v := t4.v) (by simp [results, Tryz.results40, go_sem, c5, Tup.v]) rfl ?_
                      exact ⟨t4, rfl, U4.out.short, U4.out.tape.keeps hW'.out.2 (fun j hj e => by have := U4.out.tl; omega), U4.out.on.step hW'.out.2 (fun j e => .inr (by omega))⟩
                  · have hk41' : ((k4 : Int) == 1) = false := by rw [beq_eq_false_iff_ne]; omega
                    have oc := U5b.out.out.cell
                    have ol := U5b.out.out.lt
                    have rc := U5b.out.res.cell
                    have rf := U5b.out.res.frozen
                    have rl := U5b.out.res.lt
                    unfold zero6 at rc
                    obtain ⟨W, eW, hBW, hKW⟩ := put6 rfl U5b.out.res t5
                    have hW' := Lib.hid (And.intro hBW hKW)
                    clear hBW hKW
                    go_wp2_with fail
                    have c5 := hW'.out.1.cell
                    refine bodyPost_ret (v := t5.v) (by simp [results, Tryz.results40, go_sem, c5, Tup.v]) rfl ?_
                    exact ⟨t5, rfl, U5b.out.short, U5b.out.tape.keeps hW'.out.2 (fun j hj e => by have := U5b.out.tl; omega), U5b.out.on.step hW'.out.2 (fun j e => .inr (by omega))⟩
end Go.Proofs.YtaikedlkkjnffaaGreatDoor
