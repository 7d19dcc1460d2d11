/- What an iterator and the loop over it owe each other: which blocks the one turns, and what the other keeps. -/
import Derived.Test.YtcnpkijjnbhagaaGreatDoorLex
import Derived.Test.YtcnpkijjnbhagaaGreatDoorChecked
import Derived.WalkKit
import Derived.WalkSpells
import Derived.WalkLawsBesides
import Derived.Lib.Hide
import Derived.Test.YtcnpkijjnbhagaaGreatDoorShelf
import Derived.RangeFuncRecord
import Derived.RangeFuncSeq
import Derived.OrdersIn
import Derived.TacticsIn
import Derived.OwnWalkIn
import Derived.TacticsInMore
namespace Go.Proofs.YtcnpkijjnbhagaaGreatDoor
open Go.RowKit

/-- From W to W' no block that stood has turned but those of S. -/
structure Only (S : Nat → Prop) (W W' : World) : Prop where
  os : W'.os = W.os
  tape : W'.tape = W.tape
  output : W'.output = W.output
  size : W.heap.size ≤ W'.heap.size
  block : ∀ k, k < W.heap.size → ¬ S k → W'.heap[k]? = W.heap[k]?
theorem Only.refl (S : Nat → Prop) (W : World) : Only S W W := ⟨rfl, rfl, rfl, Nat.le_refl _, fun _ _ _ => rfl⟩
theorem Only.trans {S : Nat → Prop} {A B C : World} (h : Only S A B) (k : Only S B C) : Only S A C :=
  ⟨k.os.trans h.os, k.tape.trans h.tape, k.output.trans h.output, Nat.le_trans h.size k.size, fun i hi hn => (k.block i (Nat.lt_of_lt_of_le hi h.size) hn).trans (h.block i hi hn)⟩
theorem Only.drew {S : Nat → Prop} {A B : World} (h : Only S A B) : Only S A B.drew := ⟨h.os, h.tape, h.output, h.size, h.block⟩
theorem Only.drewN {S : Nat → Prop} {A B : World} (h : Only S A B) (n : Nat) : Only S A (B.drewN n) := ⟨h.os, h.tape, h.output, h.size, h.block⟩
theorem Only.alloc {S : Nat → Prop} {A B : World} (h : Only S A B) (o : Obj) : Only S A (B.alloc o) :=
  h.trans ⟨rfl, rfl, rfl, by simp, fun k hk _ => Below.heap_alloc _ _ _ hk⟩
/-- A store into a block of S, or into one that was made since A. -/
theorem Only.setCell {S : Nat → Prop} {A B : World} (h : Only S A B) {p : Addr} (hp : S p.block ∨ A.heap.size ≤ p.block) (u : Value) : Only S A (B.setCell p u) :=
  ⟨h.os, h.tape, h.output, by show A.heap.size ≤ (B.heap.modify _ _).size; rw [Array.size_modify]; exact h.size, fun k hk hn => by
    have hne : k ≠ p.block := fun e => by
      subst e
      rcases hp with hp | hp
      · exact hn hp
      · omega
    exact (Below.heap_setCell B p u k hne).trans (h.block k hk hn)⟩
theorem Only.mono {S T : Nat → Prop} {A B : World} (h : Only S A B) (hs : ∀ k, S k → T k) : Only T A B :=
  ⟨h.os, h.tape, h.output, h.size, fun k hk hn => h.block k hk (fun e => hn (hs k e))⟩
theorem Below.only {S : Nat → Prop} {W W' : World} (h : Below W.heap.size W W') : Only S W W' := ⟨h.os, h.tape, h.output, h.size, fun k hk _ => h.block k hk⟩

/-- The blocks of S that may turn: all but the library's variable. -/
def Wr (S : Nat → Prop) : Nat → Prop := fun k => S k ∧ k ≠ 8
/-- An invariant of the caller that abides the iterator's own steps. -/
def Abides2 (S : Nat → Prop) (J : List Pt → World → Prop) : Prop := ∀ pre W W', J pre W → Only (Wr S) W W' → J pre W'
/-- What a round keeps: the blocks of S. -/
def Keeps (S : Nat → Prop) (W W' : World) : Prop := W.heap.size ≤ W'.heap.size ∧ ∀ k, S k → W'.heap[k]? = W.heap[k]?
theorem Keeps.cell {S : Nat → Prop} {W W' : World} (h : Keeps S W W') {p : Addr} (hp : S p.block) : W'.cell? p = W.cell? p := World.cell?_of_block (w := W) (h.2 _ hp)
/-- The value that is handed to yield. -/
def ptv (x : Pt) : Value := .agg #[.int .i64 x.kd, .int .i64 x.fr, .int .i64 x.to, .int .i64 x.bd, .int .i64 x.en]
/-- The rounds' contract: all is all that is told. -/
def Rounds (P : Program) (S : Nat → Prop) (l : Nat) (all : List Pt) (J Jx : List Pt → World → Prop) : Prop :=
  ∀ pre x rest W, all = pre ++ x :: rest → (∀ k, S k → k < W.heap.size) → J pre W → YieldAt Fence.wide 0 P l #[.int .i64 x.ln, ptv x] W fun e W' =>
    (e = .returned (.bool true) ∧ J (pre ++ [x]) W' ∧ Keeps S W W') ∨ (e = .returned (.bool false) ∧ Jx (pre ++ [x]) W' ∧ Keeps S W W')

/-- The reader of tokens, a block of six cells. -/
def Reader (W : World) (R : Nat) (s : ByteArray) (p ln bg : Nat) (y : Value) (ov : Bool) : Prop :=
  W.heap[R]? = some (.cells #[.string s, .int .i64 p, .int .i64 ln, .int .i64 bg, y, .bool ov] 239 (0, 0))
section
variable {W : World} {R : Nat} {s : ByteArray} {p ln bg : Nat} {y : Value} {ov : Bool}
theorem Reader.c0 (h : Reader W R s p ln bg y ov) : W.cell? ⟨R, 0, none⟩ = some (.string s) := by simp [World.cell?, show W.heap[R]? = _ from h]
theorem Reader.c1 (h : Reader W R s p ln bg y ov) : W.cell? ⟨R, 1, none⟩ = some (.int .i64 p) := by simp [World.cell?, show W.heap[R]? = _ from h]
theorem Reader.c2 (h : Reader W R s p ln bg y ov) : W.cell? ⟨R, 2, none⟩ = some (.int .i64 ln) := by simp [World.cell?, show W.heap[R]? = _ from h]
theorem Reader.c3 (h : Reader W R s p ln bg y ov) : W.cell? ⟨R, 3, none⟩ = some (.int .i64 bg) := by simp [World.cell?, show W.heap[R]? = _ from h]
theorem Reader.c4 (h : Reader W R s p ln bg y ov) : W.cell? ⟨R, 4, none⟩ = some y := by simp [World.cell?, show W.heap[R]? = _ from h]
theorem Reader.c5 (h : Reader W R s p ln bg y ov) : W.cell? ⟨R, 5, none⟩ = some (.bool ov) := by simp [World.cell?, show W.heap[R]? = _ from h]
theorem Reader.fz (h : Reader W R s p ln bg y ov) (i : Nat) : W.frozen? ⟨R, i, none⟩ = false := by simp [World.frozen?, show W.heap[R]? = _ from h]
theorem Reader.lt (h : Reader W R s p ln bg y ov) : R < W.heap.size := by
  rcases Nat.lt_or_ge R W.heap.size with h' | h'
  · exact h'
  · exact absurd h (by simp [Reader, Array.getElem?_eq_none h'])
theorem Reader.block {W' : World} (h : Reader W R s p ln bg y ov) (e : W'.heap[R]? = W.heap[R]?) : Reader W' R s p ln bg y ov := e.trans h
theorem Reader.below {B : Nat} {W' : World} (h : Reader W R s p ln bg y ov) (hb : Below B W W') (hR : R < B) : Reader W' R s p ln bg y ov := (hb.block R hR).trans h
theorem Reader.alloc (h : Reader W R s p ln bg y ov) (o : Obj) : Reader (W.alloc o) R s p ln bg y ov := (Below.heap_alloc W o R h.lt).trans h
theorem Reader.drewN (h : Reader W R s p ln bg y ov) (n : Nat) : Reader (W.drewN n) R s p ln bg y ov := h
theorem Reader.other (h : Reader W R s p ln bg y ov) {a : Addr} (ha : a.block ≠ R) (u : Value) : Reader (W.setCell a u) R s p ln bg y ov := (Below.heap_setCell W a u R ha.symm).trans h
theorem Reader.set (h : Reader W R s p ln bg y ov) (i : Nat) (u : Value) :
    (W.setCell ⟨R, i, none⟩ u).heap[R]? = some (.cells (#[.string s, .int .i64 p, .int .i64 ln, .int .i64 bg, y, .bool ov].setIfInBounds i u) 239 (0, 0)) := by
  simp [World.setCell, Array.getElem?_modify, show W.heap[R]? = _ from h]
theorem Reader.set1 (h : Reader W R s p ln bg y ov) (q : Nat) : Reader (W.setCell ⟨R, 1, none⟩ (.int .i64 q)) R s q ln bg y ov := h.set 1 _
theorem Reader.set2 (h : Reader W R s p ln bg y ov) (q : Nat) : Reader (W.setCell ⟨R, 2, none⟩ (.int .i64 q)) R s p q bg y ov := h.set 2 _
theorem Reader.set3 (h : Reader W R s p ln bg y ov) (q : Nat) : Reader (W.setCell ⟨R, 3, none⟩ (.int .i64 q)) R s p ln q y ov := h.set 3 _
theorem Reader.set5 (h : Reader W R s p ln bg y ov) (b : Bool) : Reader (W.setCell ⟨R, 5, none⟩ (.bool b)) R s p ln bg y b := h.set 5 _
end
end Go.Proofs.YtcnpkijjnbhagaaGreatDoor
