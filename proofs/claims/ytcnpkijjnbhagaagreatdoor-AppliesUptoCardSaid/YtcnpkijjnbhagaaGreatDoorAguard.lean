/- The program's Apply, walked. -/
import Derived.Test.YtcnpkijjnbhagaaGreatDoorAref
import Derived.Test.YtcnpkijjnbhagaaGreatDoorBld
namespace Go.Proofs.YtcnpkijjnbhagaaGreatDoor
open Go.RowKit

def GaRel (s : ByteArray) (es : List Ed) (W : World) (pv i : Value) (wr : World) : Prop :=
  ∃ (k p : Nat) (acc : List UInt8), i = .int .i64 k ∧ pv = .int .i64 p ∧ k ≤ es.length ∧ p ≤ s.size ∧ acc ++ outF s.data.toList (es.drop k) p = outF s.data.toList es 0 ∧
    Lib.IsBuilderF 123 5 W.heap.size W.heap.size (Lib.byteCells acc) wr ∧ Below W.heap.size W wr
theorem isb_lt {T e : TypeId} {B b : Nat} {bs : List Value} {w : World} (h : Lib.IsBuilderF T e B b bs w) : b < w.heap.size := by
  rcases h with h | h
  · exact h.lt
  · exact h.lt
theorem ga_skip {s : ByteArray} {es : List Ed} {W wr : World} {k p : Nat} {acc : List UInt8} {e : Ed} {x : Int} (o : Obj) (hx : x = (k : Int) + 1) (he : Hid (es[k]? = some e)) (hp : p ≤ s.size) (hb : ¬ e.ok s.size p)
    (hT : Hid (acc ++ outF s.data.toList (es.drop k) p = outF s.data.toList es 0)) (hI : Hid (Lib.IsBuilderF 123 5 W.heap.size W.heap.size (Lib.byteCells acc) wr)) (hB : Below W.heap.size W wr) : GaRel s es W (.int .i64 p) (.int .i64 x) (wr.alloc o) := by
  subst hx
  have hk : k < es.length := by
    rcases Nat.lt_or_ge k es.length with h' | h'
    · exact h'
    · have := he.out; simp [List.getElem?_eq_none h'] at this
  refine ⟨k + 1, p, acc, rfl, rfl, hk, hp, ?_, hI.out.alloc o, hB.alloc hB.size o⟩
  rw [← outF_bad he.out (by simpa using hb)]
  exact hT.out
theorem ga_take {s : ByteArray} {es : List Ed} {W wr : World} {k p at_ cut : Nat} {acc : List UInt8} {nw : ByteArray} {x y : Int} (hx : x = (k : Int) + 1) (hy : y = (at_ : Int) + cut) (he : Hid (es[k]? = some ⟨at_, cut, nw⟩)) (h1 : p ≤ at_) (h2 : at_ + cut ≤ s.size)
    (hT : Hid (acc ++ outF s.data.toList (es.drop k) p = outF s.data.toList es 0)) (hI : Lib.IsBuilderF 123 5 W.heap.size W.heap.size (Lib.byteCells acc ++ Lib.strCells (s.extract p at_) ++ Lib.strCells nw) wr) (hB : Below W.heap.size W wr) : GaRel s es W (.int .i64 y) (.int .i64 x) wr := by
  subst hx; subst hy
  have hk : k < es.length := by
    rcases Nat.lt_or_ge k es.length with h' | h'
    · exact h'
    · have := he.out; simp [List.getElem?_eq_none h'] at this
  refine ⟨k + 1, at_ + cut, acc ++ (s.extract p at_).data.toList ++ nw.data.toList, rfl, rfl, hk, h2, ?_, ?_, hB⟩
  · have := hT.out
    rw [outF_good he.out h1 (by simpa using h2)] at this
    rw [bytes_cut]
    simpa using this
  · rw [Lib.strCells_eq, Lib.strCells_eq, ← Lib.byteCells_append, ← Lib.byteCells_append] at hI
    exact hI
def GaPost (s : ByteArray) (es : List Ed) (W : World) (e : Ending) (w' : World) : Prop :=
  ∃ t : ByteArray, e = .returned (.string t) ∧ t.data.toList = outF s.data.toList es 0 ∧ Below W.heap.size W w'
/-- WriteString at a builder. -/
def WsPost (B : Nat) (bs : List Value) (s : ByteArray) (w : World) (e : Ending) (w' : World) : Prop :=
  e = .returned (.tuple #[.int .i64 s.size, .nilIface]) ∧ Lib.IsBuilderF 123 5 B B (bs ++ Lib.strCells s) w' ∧ Below B w w' ∧ Lib.OthersKept 5 (some B) w w'
theorem ws_any (B : Nat) (bs : List Value) (s : ByteArray) (w : World) (h : Lib.IsBuilderF 123 5 B B bs w) (hl : bs.length + s.size ≤ 140737488355328) (hB : B ≤ w.heap.size) :
    Calls Tryz.prog 61 #[.pointer (some ⟨B, 0, none⟩), .string s] w (WsPost B bs s w) :=
  (bld_write B B bs s w h hl hB).mono fun _ _ ⟨h1, h2, h3, h4⟩ => ⟨h1, .inr h2, h3, h4⟩
theorem ed_kept {b g : Nat} {w w' : World} {cs : Array Value} (h : Lib.OthersKept 5 (some b) w w') (hg : w.heap[g]? = some (.cells cs 70 (0, 0))) (hne : g ≠ b) : w'.heap[g]? = some (.cells cs 70 (0, 0)) :=
  h g _ hg (by simpa using hne) (by intro c fz h; injection h with _ h2; exact absurd h2 (by decide))
set_option maxHeartbeats 2000000 in
set_option maxRecDepth 100000 in
theorem ga_any (s : ByteArray) (es : List Ed) (vo : Option Addr) (c : Nat) (W : World) (hs : s.size + totE es ≤ 1048576) (hn : es.length ≤ 1048576) (hE : EdsAt W vo es) :
    Calls Tryz.prog 34 #[.string s, .slice vo es.length c] W (GaPost s es W) := by
  have HE := Lib.hid hE
  clear hE
  obtain ⟨n, hnn⟩ : ∃ n, n = es.length := ⟨_, rfl⟩
  rw [← hnn] at hn
  rw [← hnn]
  have HN := Lib.hid hnn
  clear hnn
  have hsz : s.size ≤ 1048576 := by omega
  go_enter Tryz.func34, Tryz.ntmps34
  go_wp2
  go_loopw [6, 11] (GaRel s es W) (fun _ i _ => n - (intOf i).toNat)
  case atStart => exact ⟨0, 0, [], rfl, rfl, Nat.zero_le _, Nat.zero_le _, by simp, Lib.IsBuilderF.of (Lib.fresh_isBuilder _ _ W), (Below.refl _ _).alloc (Nat.le_refl _) _⟩
  case round =>
    obtain ⟨k, p, acc, rfl, rfl, hk, hp, hT, hI, hB⟩ := hrel
    have HT := Lib.hid hT
    have HI := Lib.hid hI
    have hlt := isb_lt hI
    have htl : acc.length ≤ 2097152 := by
      have h1 := congrArg List.length hT
      have h2 := outF_len s.data.toList es 0
      simp only [List.length_append] at h1
      have h4 : s.data.toList.length = s.size := by simp
      omega
    clear hT hI
    by_cases hkn : k < n
    · have hk' : k < es.length := by have := HN.out; omega
      obtain ⟨e, hge⟩ : ∃ e, es[k]? = some e := ⟨_, List.getElem?_eq_getElem hk'⟩
      obtain ⟨g, o, hvo, c0, c1, c2⟩ := HE.out k e hge
      subst hvo
      have hnw : e.nw.size ≤ 1048576 := by have := totE_get es k e hge; omega
      have d0 := (hB.cell (World.block_lt_of_cell? W ⟨g, o + k * 3, none⟩ c0)).trans c0
      have d1 := (hB.cell (World.block_lt_of_cell? W ⟨g, o + k * 3 + 1, none⟩ c1)).trans c1
      have d2 := (hB.cell (World.block_lt_of_cell? W ⟨g, o + k * 3 + 2, none⟩ c2)).trans c2
      clear c0 c1 c2 hk hk'
      have HG := Lib.hid hge
      clear hge
      obtain ⟨ea, ec, nw⟩ := e
      simp only at d0 d1 d2 hnw
      by_cases hok : Ed.ok ⟨ea, ec, nw⟩ s.size p
      · obtain ⟨h1, h2, h3, h4⟩ := hok
        simp only at h1 h2 h3 h4
        obtain ⟨a, rfl⟩ : ∃ a : Nat, ea = a := ⟨ea.toNat, by omega⟩
        obtain ⟨q, rfl⟩ : ∃ q : Nat, ec = q := ⟨ec.toNat, by omega⟩
        have g1 : p ≤ a := by omega
        have g2 : a + q ≤ s.size := by omega
        clear h1 h2 h3 h4
        go_wp2_with fail
        refine (ws_any _ _ _ _ (HI.out.alloc _) (by rw [Lib.byteCells_length, ByteArray.size_extract]; omega) (by simp; exact Nat.le_of_lt (Nat.lt_succ_of_lt hlt))).mono ?_
        rintro e w1 ⟨rfl, hb1, hB1, hk1⟩
        have y1 := ed_kept hk1 (heap_alloc_new wr _) (Nat.ne_of_gt hlt)
        have z0 := cell_of_row _ _ 0 _ _ _ y1
        have z1 := cell_of_row _ _ 1 _ _ _ y1
        have z2 := cell_of_row _ _ 2 _ _ _ y1
        simp only [List.getElem?_toArray, List.getElem?_cons_succ, List.getElem?_cons_zero] at z0 z1 z2
        have HI1 := Lib.hid hb1
        have hBB := (hB.alloc hB.size _).trans (hB1.mono (Nat.le_refl _))
        clear hb1 hk1
        have HY := Lib.hid y1
        clear y1
        go_wp2_with fail
        refine (ws_any _ _ _ _ HI1.out (by rw [List.length_append, Lib.byteCells_length, Lib.strCells_length, ByteArray.size_extract]; omega) hBB.size).mono ?_
        rintro e w2 ⟨rfl, hb2, hB2, hk2⟩
        have y2 := ed_kept hk2 HY.out (Nat.ne_of_gt hlt)
        have x0 := cell_of_row _ _ 0 _ _ _ y2
        have x1 := cell_of_row _ _ 1 _ _ _ y2
        simp only [List.getElem?_toArray, List.getElem?_cons_succ, List.getElem?_cons_zero] at x0 x1
        have HI2 := Lib.hid hb2
        clear hb2 hk2 y2
        go_wp2
        go_roundw
        case rel => exact ga_take rfl rfl HG g1 g2 HT HI2.out (hBB.trans hB2)
        case measure => exact ra_less rfl hkn
      · have HB := Lib.hid hok
        by_cases h1 : ea < p
        · clear hok
          go_wp2
          go_roundw
          case rel => exact ga_skip _ rfl HG hp HB.out HT HI hB
          case measure => exact ra_less rfl hkn
        · by_cases h2 : ec < 0
          · clear hok
            go_wp2
            go_roundw
            case rel => exact ga_skip _ rfl HG hp HB.out HT HI hB
            case measure => exact ra_less rfl hkn
          · by_cases h3 : (s.size : Int) < ea
            · clear hok
              go_wp2
              go_roundw
              case rel => exact ga_skip _ rfl HG hp HB.out HT HI hB
              case measure => exact ra_less rfl hkn
            · have h4 : (s.size : Int) - ea < ec := by
                unfold Ed.ok at hok
                simp only at hok
                omega
              clear hok
              go_wp2
              go_roundw
              case rel => exact ga_skip _ rfl HG hp HB.out HT HI hB
              case measure => exact ra_less rfl hkn
    · have hke : Hid (k = es.length) := by have := HN.out; exact (by omega : k = es.length)
      clear hk
      go_wp2_with fail
      refine (ws_any _ _ _ _ HI.out (by rw [Lib.byteCells_length, ByteArray.size_extract]; omega) hB.size).mono ?_
      rintro e w1 ⟨rfl, hb1, hB1, hk1⟩
      rw [Lib.strCells_eq, ← Lib.byteCells_append] at hb1
      have HI1 := Lib.hid hb1
      have hBB := hB.trans hB1
      clear hb1 hk1
      go_wp2_with fail
      refine (Tryz.Builder_String_any_k _ _ _ _ HI1.out hBB.size).mono ?_
      rintro e w2 ⟨rfl, _, hB2, _⟩
      go_wp2
      go_ret
      refine ⟨_, rfl, ?_, hBB.trans hB2⟩
      have h1 := HT.out
      rw [hke.out] at h1
      simp [outF] at h1
      rw [← h1]
      simp [List.take_of_length_le]
end Go.Proofs.YtcnpkijjnbhagaaGreatDoor
