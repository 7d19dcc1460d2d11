/- The reference's Apply, walked. -/
import Derived.Test.YtcnpkijjnbhagaaGreatDoorAplain
import Derived.Deep.QuietTactic
import Derived.BigQuiet
import Derived.OwnWalk
import Derived.Outline
namespace Go.Proofs.YtcnpkijjnbhagaaGreatDoor
open Go.RowKit

def RaRel (s : ByteArray) (es : List Ed) (W : World) (tv pv i : Value) (wr : World) : Prop :=
  ∃ (k p : Nat) (t : ByteArray), i = .int .i64 k ∧ pv = .int .i64 p ∧ tv = .string t ∧ k ≤ es.length ∧ p ≤ s.size ∧ t.data.toList ++ outF s.data.toList (es.drop k) p = outF s.data.toList es 0 ∧ Below W.heap.size W wr
def RaPost (s : ByteArray) (es : List Ed) (W : World) (e : Ending) (w' : World) : Prop :=
  ∃ t : ByteArray, e = .returned (.string t) ∧ t.data.toList = outF s.data.toList es 0 ∧ Below W.heap.size W w'
theorem ra_skip {s : ByteArray} {es : List Ed} {W wr : World} {k p : Nat} {t : ByteArray} {e : Ed} {x : Int} (o : Obj) (hx : x = (k : Int) + 1) (he : Hid (es[k]? = some e)) (hp : p ≤ s.size) (hb : ¬ e.ok s.size p)
    (hT : Hid (t.data.toList ++ outF s.data.toList (es.drop k) p = outF s.data.toList es 0)) (hB : Below W.heap.size W wr) : RaRel s es W (.string t) (.int .i64 p) (.int .i64 x) (wr.alloc o) := by
  subst hx
  have hk : k < es.length := by
    rcases Nat.lt_or_ge k es.length with h' | h'
    · exact h'
    · have := he.out; simp [List.getElem?_eq_none h'] at this
  refine ⟨k + 1, p, t, rfl, rfl, rfl, hk, hp, ?_, hB.alloc hB.size o⟩
  rw [← outF_bad he.out (by simpa using hb)]
  exact hT.out
theorem ra_take {s : ByteArray} {es : List Ed} {W wr : World} {k p at_ cut j : Nat} {t nw : ByteArray} {x y : Int} (o : Obj) (hx : x = (k : Int) + 1) (hy : y = (at_ : Int) + cut) (he : Hid (es[k]? = some ⟨at_, cut, nw⟩)) (h1 : p ≤ at_) (h2 : at_ + cut ≤ s.size)
    (hT : Hid (t.data.toList ++ outF s.data.toList (es.drop k) p = outF s.data.toList es 0)) (hB : Below W.heap.size W wr) : RaRel s es W (.string (t ++ s.extract p at_ ++ nw)) (.int .i64 y) (.int .i64 x) ((wr.alloc o).drewN j) := by
  subst hx; subst hy
  have hk : k < es.length := by
    rcases Nat.lt_or_ge k es.length with h' | h'
    · exact h'
    · have := he.out; simp [List.getElem?_eq_none h'] at this
  have hA := hB.alloc hB.size o
  refine ⟨k + 1, at_ + cut, t ++ s.extract p at_ ++ nw, rfl, rfl, rfl, hk, h2, ?_, ⟨hA.os, hA.tape, hA.output, hA.size, hA.block⟩⟩
  have := hT.out
  rw [outF_good he.out h1 (by simpa using h2)] at this
  rw [bytes_app, bytes_app, bytes_cut]
  simpa using this
theorem ra_less {n k : Nat} {x : Int} (hx : x = (k : Int) + 1) (hk : k < n) : n - (intOf (.int .i64 x)).toNat < n - (intOf (.int .i64 (k : Int))).toNat := by
  subst hx
  simp [intOf]
  omega
set_option maxHeartbeats 2000000 in
set_option maxRecDepth 100000 in
theorem ra_any (s : ByteArray) (es : List Ed) (vo : Option Addr) (c : Nat) (W : World) (hs : s.size + totE es ≤ 1048576) (hn : es.length ≤ 1048576) (hE : EdsAt W vo es) :
    Calls Tryz.prog 35 #[.string s, .slice vo es.length c] W (RaPost s es W) := by
  have HE := Lib.hid hE
  clear hE
  obtain ⟨n, hnn⟩ : ∃ n, n = es.length := ⟨_, rfl⟩
  rw [← hnn] at hn
  rw [← hnn]
  have HN := Lib.hid hnn
  clear hnn
  have hsz : s.size ≤ 1048576 := by omega
  go_enter Tryz.func35, Tryz.ntmps35
  go_wp2
  go_loopw [5, 6, 7] (RaRel s es W) (fun _ _ i _ => n - (intOf i).toNat)
  case atStart => exact ⟨0, 0, _, rfl, rfl, rfl, Nat.zero_le _, Nat.zero_le _, by simp, Below.refl _ _⟩
  case round =>
    obtain ⟨k, p, t, rfl, rfl, rfl, hk, hp, hT, hB⟩ := hrel
    have HT := Lib.hid hT
    have htl : t.size ≤ 2097152 := by
      have h1 := congrArg List.length hT
      have h2 := outF_len s.data.toList es 0
      simp only [List.length_append] at h1
      have h3 : t.data.toList.length = t.size := by simp
      have h4 : s.data.toList.length = s.size := by simp
      omega
    clear hT
    by_cases hkn : k < n
    · have hk' : k < es.length := by have := HN.out; omega
      obtain ⟨e, hge⟩ : ∃ e, es[k]? = some e := ⟨_, List.getElem?_eq_getElem hk'⟩
      obtain ⟨g, o, hvo, c0, c1, c2⟩ := HE.out k e hge
      subst hvo
      have hnw : e.nw.size ≤ 1048576 := by have := totE_get es k e hge; omega
      have d0 := (hB.cell (World.block_lt_of_cell? W ⟨g, o + k * 3, none⟩ c0)).trans c0
      have d1 := (hB.cell (World.block_lt_of_cell? W ⟨g, o + k * 3 + 1, none⟩ c1)).trans c1
      have d2 := (hB.cell (World.block_lt_of_cell? W ⟨g, o + k * 3 + 2, none⟩ c2)).trans c2
      clear c0 c1 c2 hk hk'
      have HG := Lib.hid hge
      clear hge
      obtain ⟨ea, ec, nw⟩ := e
      simp only at d0 d1 d2 hnw
      by_cases hok : Ed.ok ⟨ea, ec, nw⟩ s.size p
      · obtain ⟨h1, h2, h3, h4⟩ := hok
        simp only at h1 h2 h3 h4
        obtain ⟨a, rfl⟩ : ∃ a : Nat, ea = a := ⟨ea.toNat, by omega⟩
        obtain ⟨q, rfl⟩ : ∃ q : Nat, ec = q := ⟨ec.toNat, by omega⟩
        have g1 : p ≤ a := by omega
        have g2 : a + q ≤ s.size := by omega
        clear h1 h2 h3 h4
        go_wp2
        go_quiet (fail)
        go_wp2
        go_roundw
        case rel => exact ra_take _ rfl rfl HG g1 g2 HT hB
        case measure => exact ra_less rfl hkn
      · have HB := Lib.hid hok
        by_cases h1 : ea < p
        · clear hok
          go_wp2
          go_roundw
          case rel => exact ra_skip _ rfl HG hp HB.out HT hB
          case measure => exact ra_less rfl hkn
        · by_cases h2 : ec < 0
          · clear hok
            go_wp2
            go_roundw
            case rel => exact ra_skip _ rfl HG hp HB.out HT hB
            case measure => exact ra_less rfl hkn
          · by_cases h3 : (s.size : Int) < ea
            · clear hok
              go_wp2
              go_roundw
              case rel => exact ra_skip _ rfl HG hp HB.out HT hB
              case measure => exact ra_less rfl hkn
            · have h4 : (s.size : Int) - ea < ec := by
                unfold Ed.ok at hok
                simp only at hok
                omega
              clear hok
              go_wp2
              go_roundw
              case rel => exact ra_skip _ rfl HG hp HB.out HT hB
              case measure => exact ra_less rfl hkn
    · have hke : Hid (k = es.length) := by have := HN.out; exact (by omega : k = es.length)
      clear hk
      go_wp2
      go_ret
      refine ⟨_, rfl, ?_, hB⟩
      have h1 := HT.out
      rw [hke.out] at h1
      simp [outF] at h1
      rw [← h1]
      simp [List.take_of_length_le]
end Go.Proofs.YtcnpkijjnbhagaaGreatDoor
