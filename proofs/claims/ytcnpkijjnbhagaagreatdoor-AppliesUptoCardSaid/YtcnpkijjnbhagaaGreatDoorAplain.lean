/- What a text is made by edits, in plain words, and how a list of edits lies in memory. -/
import Derived.Test.YtcnpkijjnbhagaaGreatDoorProg
import Derived.WalkKit
import Derived.WalkSpells
import Derived.WalkLawsBesides
import Derived.WalkMore
import Derived.Lib.Hide
namespace Go.Proofs.YtcnpkijjnbhagaaGreatDoor
open Go.RowKit

/-- An edit. -/
structure Ed where
  at_ : Int
  cut : Int
  nw : ByteArray
/-- Is it taken, of a text of n bytes, behind place p? -/
def Ed.ok (e : Ed) (n p : Nat) : Prop := (p : Int) ≤ e.at_ ∧ 0 ≤ e.cut ∧ e.at_ ≤ n ∧ e.cut ≤ n - e.at_
instance (e : Ed) (n p : Nat) : Decidable (e.ok n p) := by unfold Ed.ok; infer_instance
/-- What is made of the text's bytes from p on. -/
def outF (l : List UInt8) : List Ed → Nat → List UInt8
  | [], p => l.drop p
  | e :: r, p => if e.ok l.length p then (l.drop p).take (e.at_.toNat - p) ++ e.nw.data.toList ++ outF l r (e.at_.toNat + e.cut.toNat) else outF l r p
/-- All new bytes. -/
def totE : List Ed → Nat
  | [] => 0
  | e :: r => e.nw.size + totE r
theorem totE_get : ∀ (es : List Ed) (k : Nat) (e : Ed), es[k]? = some e → e.nw.size ≤ totE es
  | [], k, e, h => by simp at h
  | a :: r, 0, e, h => by simp at h; subst h; simp [totE]
  | a :: r, k + 1, e, h => by have := totE_get r k e (by simpa using h); simp [totE]; omega
theorem outF_len (l : List UInt8) : ∀ (es : List Ed) (p : Nat), (outF l es p).length ≤ (l.length - p) + totE es
  | [], p => by simp [outF, totE]
  | e :: r, p => by
    unfold outF
    split
    · rename_i h
      obtain ⟨h1, h2, h3, h4⟩ := h
      have := outF_len l r (e.at_.toNat + e.cut.toNat)
      have hs : e.nw.data.toList.length = e.nw.size := by simp
      simp only [List.length_append, List.length_take, List.length_drop, totE, hs]
      omega
    · have := outF_len l r p
      simp only [totE]
      omega
theorem drop_get {es : List Ed} {k : Nat} {e : Ed} (h : es[k]? = some e) : es.drop k = e :: es.drop (k + 1) := by
  have hk : k < es.length := by
    rcases Nat.lt_or_ge k es.length with h' | h'
    · exact h'
    · simp [List.getElem?_eq_none h'] at h
  rw [List.drop_eq_getElem_cons hk]
  rw [List.getElem?_eq_getElem hk] at h
  rw [Option.some.inj h]
theorem outF_bad {l : List UInt8} {es : List Ed} {k p : Nat} {e : Ed} (h : es[k]? = some e) (hb : ¬ e.ok l.length p) : outF l (es.drop k) p = outF l (es.drop (k + 1)) p := by
  rw [drop_get h]
  conv => lhs; unfold outF
  rw [if_neg hb]
theorem outF_good {l : List UInt8} {es : List Ed} {k p at_ cut : Nat} {nw : ByteArray} (h : es[k]? = some ⟨at_, cut, nw⟩) (h1 : p ≤ at_) (h2 : at_ + cut ≤ l.length) :
    outF l (es.drop k) p = (l.drop p).take (at_ - p) ++ nw.data.toList ++ outF l (es.drop (k + 1)) (at_ + cut) := by
  rw [drop_get h]
  conv => lhs; unfold outF
  rw [if_pos (by unfold Ed.ok; simp only; omega)]
  simp
theorem bytes_app (a b : ByteArray) : (a ++ b).data.toList = a.data.toList ++ b.data.toList := by simp
theorem bytes_cut (s : ByteArray) (p q : Nat) : (s.extract p q).data.toList = (s.data.toList.drop p).take (q - p) := by
  simp [List.extract]
theorem bytes_eq {a b : ByteArray} (h : a.data.toList = b.data.toList) : a = b := by
  obtain ⟨⟨a⟩⟩ := a
  obtain ⟨⟨b⟩⟩ := b
  simp at h
  rw [h]
/-- The edits lie behind vo. -/
def EdsAt (W : World) (vo : Option Addr) (es : List Ed) : Prop :=
  ∀ k e, es[k]? = some e → ∃ g o, vo = some ⟨g, o, none⟩ ∧ W.cell? ⟨g, o + k * 3, none⟩ = some (.int .i64 e.at_) ∧ W.cell? ⟨g, o + k * 3 + 1, none⟩ = some (.int .i64 e.cut) ∧ W.cell? ⟨g, o + k * 3 + 2, none⟩ = some (.string e.nw)
theorem EdsAt.below {W W' : World} {vo : Option Addr} {es : List Ed} (h : EdsAt W vo es) {B : Nat} (hb : Below B W W') (hB : B = W.heap.size) : EdsAt W' vo es := by
  subst hB
  intro k e he
  obtain ⟨g, o, rfl, c0, c1, c2⟩ := h k e he
  exact ⟨g, o, rfl, (hb.cell (World.block_lt_of_cell? W ⟨g, o + k * 3, none⟩ c0)).trans c0, (hb.cell (World.block_lt_of_cell? W ⟨g, o + k * 3 + 1, none⟩ c1)).trans c1, (hb.cell (World.block_lt_of_cell? W ⟨g, o + k * 3 + 2, none⟩ c2)).trans c2⟩
end Go.Proofs.YtcnpkijjnbhagaaGreatDoor
