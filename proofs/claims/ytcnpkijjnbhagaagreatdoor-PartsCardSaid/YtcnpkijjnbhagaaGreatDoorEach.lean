/- The function lex.Each, walked: it tells of eachF, part by part, till a round says no more. -/
import Derived.Test.YtcnpkijjnbhagaaGreatDoorFlush
import Derived.Test.YtcnpkijjnbhagaaGreatDoorQuoted
import Derived.Deep.CutBlock
import Derived.StillTailTactics
namespace Go.Proofs.YtcnpkijjnbhagaaGreatDoor
open Go.RowKit

theorem rest_list (s : ByteArray) (p : Nat) : (s.extract p s.size).data.toList = s.data.toList.drop p := by
  rw [seg_list, List.take_of_length_le (by simp)]
theorem quoted_rest (s : ByteArray) (p : Nat) (w : World) (hs : s.size ≤ 1000000) :
    Calls Tryz.prog 135 #[.string (s.extract p s.size)] w fun e w' => e = .returned (.tuple #[.int .i64 (qF (s.data.toList.drop (p + 1)) 1).1, .int .i64 (qF (s.data.toList.drop (p + 1)) 1).2]) ∧ w = w' :=
  (quoted_any _ w (by simp; omega)).mono fun e w' ⟨he, hw⟩ => ⟨by rw [he, rest_list, List.drop_drop], hw.symm⟩
theorem hp_rest (s x : ByteArray) (p : Nat) (w : World) (b : Bool) (h : Lib.hasPrefix (s.data.toList.drop p) x.data.toList = b) :
    Calls Tryz.prog 136 #[.string (s.extract p s.size), .string x] w fun e w' => e = .returned (.bool b) ∧ w = w' :=
  (Tryz.strings_HasPrefix _ _ w).mono fun e w' ⟨he, hw⟩ => ⟨by rw [he, rest_list, h], hw.symm⟩
theorem ixr_yes (s : ByteArray) (p : Nat) (w : World) (h : nlF (s.data.toList.drop p) < (s.data.toList.drop p).length) :
    Calls Tryz.prog 137 #[.string (s.extract p s.size), .int .u8 10] w fun e w' => e = .returned (.int .i64 (nlF (s.data.toList.drop p))) ∧ w = w' :=
  (Tryz.strings_IndexByte _ 10 w).mono fun e w' ⟨he, hw⟩ => ⟨by rw [he, show ((10 : Int).toNat.toUInt8) = 10 from rfl, indexByte_nlF, rest_list, if_pos h], hw.symm⟩
theorem ixr_no (s : ByteArray) (p : Nat) (w : World) (h : ¬ nlF (s.data.toList.drop p) < (s.data.toList.drop p).length) :
    Calls Tryz.prog 137 #[.string (s.extract p s.size), .int .u8 10] w fun e w' => e = .returned (.int .i64 (-1)) ∧ w = w' :=
  (Tryz.strings_IndexByte _ 10 w).mono fun e w' ⟨he, hw⟩ => ⟨by rw [he, show ((10 : Int).toNat.toUInt8) = 10 from rfl, indexByte_nlF, rest_list, if_neg h], hw.symm⟩
theorem ixb (s : ByteArray) (p : Nat) (m : Int) (w : World) (hs : s.size ≤ 1000000) (hm : w.cell? ⟨8, 0, none⟩ = some (.int .i64 m)) (i : Int) (hi : Lib.index ((s.data.toList.drop p).drop 2) [42, 47] = i) :
    Calls Tryz.prog 110 #[.string ((s.extract p s.size).extract 2 (s.size - p)), .string ⟨#[42, 47]⟩] w fun e w' => e = .returned (.int .i64 i) ∧ w = w' :=
  (Tryz.strings_Index _ _ m w (by simp; omega) hm).mono fun e w' ⟨he, hw⟩ => ⟨by
    rw [he, seg_list, rest_list, List.take_of_length_le (by simp; omega), hi], hw.symm⟩
theorem head_eq (s : ByteArray) (p : Nat) (h : 0 < (s.extract p s.size).size) : (s.data.toList.drop p).head? = some ((s.extract p s.size)[0]) := by
  rw [← rest_list, List.head?_eq_getElem?, List.getElem?_eq_getElem (by simpa using h)]
  rfl
theorem tok_quote {r : List UInt8} (h : r.head? = some 34) : tokF r = (1, (qF (r.drop 1) 1).1, 1, (qF (r.drop 1) 1).2) := by unfold tokF; rw [if_pos h]
theorem tok_line {r : List UInt8} (h : r.head? ≠ some 34) (h2 : Lib.hasPrefix r [47, 47] = true) : tokF r = (2, nlF r, 2, nlF r) := by unfold tokF; rw [if_neg h, if_pos h2]
theorem tok_open {r : List UInt8} (h : r.head? ≠ some 34) (h2 : Lib.hasPrefix r [47, 47] = false) (h3 : Lib.hasPrefix r [47, 42] = true) (h4 : Lib.index (r.drop 2) [42, 47] < 0) : tokF r = (2, r.length, 2, r.length) := by
  unfold tokF; rw [if_neg h, if_neg (by simp [h2]), if_pos h3, if_pos h4]
theorem tok_block {r : List UInt8} (h : r.head? ≠ some 34) (h2 : Lib.hasPrefix r [47, 47] = false) (h3 : Lib.hasPrefix r [47, 42] = true) (n : Nat) (h4 : Lib.index (r.drop 2) [42, 47] = n) : tokF r = (2, n + 4, 2, n + 2) := by
  unfold tokF; rw [if_neg h, if_neg (by simp [h2]), if_pos h3, if_neg (by omega), h4]; simp
theorem tok_code {r : List UInt8} (h : r.head? ≠ some 34) (h2 : Lib.hasPrefix r [47, 47] = false) (h3 : Lib.hasPrefix r [47, 42] = false) : tokF r = (0, 1, 0, 0) := by
  unfold tokF; rw [if_neg h, if_neg (by simp [h2]), if_neg (by simp [h3])]

def EachPost (all : List Pt) (J Jx : List Pt → World → Prop) (e : Ending) (W' : World) : Prop :=
  e = .returned (.tuple #[]) ∧ (J all W' ∨ ∃ q, Jx q W' ∧ q <+: all)
/-- The blocks that the reader of tokens keeps for itself, and the library's variable that it reads. -/
def OwnS (b : Nat) : Nat → Prop := fun k => k = 8 ∨ k = b ∨ k = b + 1 ∨ k = b + 1 + 1
def ERel (b : Nat) (s : ByteArray) (m : Int) (y : Value) (all : List Pt) (J Jx : List Pt → World → Prop) (g : Nat) (_ : Value) (wr : World) : Prop :=
  (∀ k, OwnS b k → k < wr.heap.size) ∧ wr.cell? ⟨8, 0, none⟩ = some (.int .i64 m) ∧
  ((∃ p c ln bg pre, s.size < g + p ∧ p ≤ s.size ∧ c ≤ p ∧ ln ≤ bg ∧ bg ≤ c ∧ Caught wr b (b + 1) (b + 1 + 1) c ∧ Reader wr b s p ln bg y false ∧ J pre wr ∧ all = pre ++ eachF s.data.toList p c ln bg) ∨
    ∃ q x1 x2 x3 c, Caught wr b (b + 1) (b + 1 + 1) c ∧ Reader wr b s x1 x2 x3 y true ∧ Jx q wr ∧ q <+: all)

theorem own_lt {b : Nat} {W : World} (h : ∀ k, OwnS b k → k < W.heap.size) {W' : World} (hsz : W.heap.size ≤ W'.heap.size) : ∀ k, OwnS b k → k < W'.heap.size := fun k hk => Nat.lt_of_lt_of_le (h k hk) hsz
theorem cell_keep {W W' : World} {b : Nat} {v : Value} (h : W.cell? ⟨b, 0, none⟩ = some v) (e : W'.heap[b]? = W.heap[b]?) : W'.cell? ⟨b, 0, none⟩ = some v := (World.cell?_of_block (w := W) (a := ⟨b, 0, none⟩) e).trans h
theorem Caught.keep {W W' : World} {R PR C c : Nat} (h : Caught W R PR C c) (e1 : W'.heap[PR]? = W.heap[PR]?) (e2 : W'.heap[C]? = W.heap[C]?) : Caught W' R PR C c := ⟨e1.trans h.pr, e2.trans h.cc⟩
/-- A round at a byte of code. -/
theorem e_code {b : Nat} {s : ByteArray} {m : Int} {y : Value} {all pre : List Pt} {J Jx : List Pt → World → Prop} {g p c ln bg : Nat} {wr : World} {u : Value} (hlt : p < s.size)
    (hS : ∀ k, OwnS b k → k < wr.heap.size) (hm : wr.cell? ⟨8, 0, none⟩ = some (.int .i64 m)) (hg : s.size < g + p) (hcp : c ≤ p) (hln : ln ≤ bg) (hbg : bg ≤ c)
    (hC : Caught wr b (b + 1) (b + 1 + 1) c) (hr : Reader wr b s p ln bg y false) (hj : J pre wr) (hall : all = pre ++ eachF s.data.toList p c ln bg) (ht : tokF (s.data.toList.drop p) = (0, 1, 0, 0)) (hJ : Abides2 (OwnS b) J) :
    ERel b s m y all J Jx (g - 1) u (wr.setCell ⟨b, 1, none⟩ (.int .i64 ((p : Int) + 1))) := by
  have hne : 8 ≠ b := fun e => by
    have h0 := hr.c0
    rw [← e] at h0
    rw [hm] at h0
    cases h0
  have hO : Only (Wr (OwnS b)) wr (wr.setCell ⟨b, 1, none⟩ (.int .i64 ((p : Int) + 1))) := (Only.refl _ wr).setCell (.inl ⟨.inr (.inl rfl), hne.symm⟩) _
  refine ⟨own_lt hS hO.size, cell_keep hm (Below.heap_setCell wr _ _ _ hne), .inl ⟨p + 1, c, ln, bg, pre, by omega, by omega, by omega, hln, hbg, ?_, hr.set1 (p + 1), hJ _ _ _ hj hO, ?_⟩⟩
  · exact hC.keep (Below.heap_setCell wr _ _ _ (by show b + 1 ≠ b; omega)) (Below.heap_setCell wr _ _ _ (by show b + 1 + 1 ≠ b; omega))
  · rw [hall, eachF_code _ _ _ _ _ (by simpa using hlt) (by rw [ht])]

theorem qF_en : ∀ (l : List UInt8) (i : Nat), (qF l i).2 ≤ (qF l i).1
  | [], i => Nat.le_refl _
  | [c], i => by unfold qF; (repeat' split) <;> simp
  | c :: d :: r, i => by
    unfold qF
    split
    · simp
    · split
      · simp
      · split
        · exact qF_en r (i + 2)
        · exact qF_en (d :: r) (i + 1)
theorem tokF_kd (r : List UInt8) : (tokF r).1 ≤ 2 := by
  unfold tokF
  (repeat' split) <;> simp
theorem tokF_bd (r : List UInt8) : (tokF r).2.2.1 ≤ 2 ∧ (tokF r).2.2.2 ≤ (tokF r).2.1 := by
  unfold tokF
  split
  · exact ⟨by simp, qF_en _ _⟩
  · split
    · simp
    · split
      · split <;> simp
      · simp
/-- What a reader's block holds, whether it is over or not. -/
theorem told_reader {W : World} {R : Nat} {s : ByteArray} {p ln' bg' : Nat} {y : Value} {all pre' : List Pt} {J Jx : List Pt → World → Prop}
    (h : (Reader W R s p ln' bg' y false ∧ J pre' W) ∨ ∃ q b c, Reader W R s p b c y true ∧ Jx q W ∧ q <+: all) : ∃ ov b c, Reader W R s p b c y ov := by
  rcases h with ⟨h, _⟩ | ⟨_, b, c, h, _⟩
  · exact ⟨_, _, _, h⟩
  · exact ⟨_, _, _, h⟩
/-- A round's end behind a string or a comment. -/
theorem e_next {b : Nat} {s : ByteArray} {m : Int} {y : Value} {all pre2 : List Pt} {J Jx : List Pt → World → Prop} {g p c sz ln2 bg2 : Nat} {W2 : World} {u : Value} (hsz : 1 ≤ sz) (hle : p + sz ≤ s.size)
    (hS : ∀ k, OwnS b k → k < W2.heap.size) (hne : 8 ≠ b ∧ 8 ≠ b + 1 + 1) (hm : W2.cell? ⟨8, 0, none⟩ = some (.int .i64 m)) (hg : s.size < g + p)
    (hln : ln2 ≤ bg2) (hbg : bg2 ≤ p + sz) (hC : Caught W2 b (b + 1) (b + 1 + 1) c) (hJ : Abides2 (OwnS b) J) (hJx : Abides2 (OwnS b) Jx)
    (hd : (Reader W2 b s p ln2 bg2 y false ∧ J pre2 W2) ∨ ∃ q x1 x2, Reader W2 b s p x1 x2 y true ∧ Jx q W2 ∧ q <+: all) (hall : Reader W2 b s p ln2 bg2 y false → all = pre2 ++ eachF s.data.toList (p + sz) (p + sz) ln2 bg2) :
    ERel b s m y all J Jx (g - 1) u ((W2.setCell ⟨b, 1, none⟩ (.int .i64 ((p : Int) + sz))).setCell ⟨b + 1 + 1, 0, none⟩ (.int .i64 ((p : Int) + sz))) := by
  have hO : Only (Wr (OwnS b)) W2 ((W2.setCell ⟨b, 1, none⟩ (.int .i64 ((p : Int) + sz))).setCell ⟨b + 1 + 1, 0, none⟩ (.int .i64 ((p : Int) + sz))) :=
    ((Only.refl _ W2).setCell (.inl ⟨.inr (.inl rfl), hne.1.symm⟩) _).setCell (.inl ⟨.inr (.inr (.inr rfl)), hne.2.symm⟩) _
  have hC' : Caught ((W2.setCell ⟨b, 1, none⟩ (.int .i64 ((p : Int) + sz))).setCell ⟨b + 1 + 1, 0, none⟩ (.int .i64 ((p : Int) + sz))) b (b + 1) (b + 1 + 1) (p + sz) := by
    refine ⟨?_, ?_⟩
    · exact (Below.heap_setCell _ _ _ _ (by show b + 1 ≠ b + 1 + 1; omega)).trans ((Below.heap_setCell W2 _ _ _ (by show b + 1 ≠ b; omega)).trans hC.pr)
    · have h1 : (W2.setCell ⟨b, 1, none⟩ (.int .i64 ((p : Int) + sz))).heap[b + 1 + 1]? = some (.cells #[.int .i64 c] 3 (0, 0)) := (Below.heap_setCell W2 _ _ _ (by show b + 1 + 1 ≠ b; omega)).trans hC.cc
      generalize W2.setCell ⟨b, 1, none⟩ (.int .i64 ((p : Int) + sz)) = W3 at h1 ⊢
      simp only [World.setCell, Array.getElem?_modify, h1]
      rfl
  have hRd : ∀ x1 x2 ov, Reader W2 b s p x1 x2 y ov → Reader ((W2.setCell ⟨b, 1, none⟩ (.int .i64 ((p : Int) + sz))).setCell ⟨b + 1 + 1, 0, none⟩ (.int .i64 ((p : Int) + sz))) b s (p + sz) x1 x2 y ov :=
    fun x1 x2 ov h => (h.set1 (p + sz)).other (a := ⟨b + 1 + 1, 0, none⟩) (by show b + 1 + 1 ≠ b; omega) _
  refine ⟨own_lt hS hO.size, cell_keep hm ((Below.heap_setCell _ _ _ _ hne.2).trans (Below.heap_setCell W2 _ _ _ hne.1)), ?_⟩
  rcases hd with ⟨hr, hj⟩ | ⟨q, x1, x2, hr, hj, hq⟩
  · exact .inl ⟨p + sz, p + sz, ln2, bg2, pre2, by omega, hle, Nat.le_refl _, hln, hbg, hC', hRd _ _ _ hr, hJ _ _ _ hj hO, hall hr⟩
  · exact .inr ⟨q, p + sz, x1, x2, p + sz, hC', hRd _ _ _ hr, hJx _ _ _ hj hO, hq⟩

/-- What holds when the loop begins. -/
theorem e_start {s : ByteArray} {m : Int} {y : Value} {all : List Pt} {J Jx : List Pt → World → Prop} {W : World} {u : Value} (hM : 8 < W.heap.size) (hm : W.cell? ⟨8, 0, none⟩ = some (.int .i64 m))
    (hJ : Abides2 (OwnS W.heap.size) J) (h0 : J [] W) (hall : all = eachF s.data.toList 0 0 0 0) :
    ERel W.heap.size s m y all J Jx (s.size + 1) u (((W.alloc (.cells #[.string s, .int .i64 0, .int .i64 0, .int .i64 0, y, .bool false] 239)).alloc (.cells #[.pointer (some ⟨W.heap.size, 0, none⟩)] 237)).alloc (.cells #[.int .i64 0] 3)) := by
  have hB : Below W.heap.size W (((W.alloc (.cells #[.string s, .int .i64 0, .int .i64 0, .int .i64 0, y, .bool false] 239)).alloc (.cells #[.pointer (some ⟨W.heap.size, 0, none⟩)] 237)).alloc (.cells #[.int .i64 0] 3)) :=
    (((Below.refl _ W).alloc (Nat.le_refl _) _).alloc (by simp) _).alloc (by simp; omega) _
  have a0 : ∀ (V : World) (o : Obj), (V.alloc o).heap[V.heap.size]? = some o := fun V o => World.alloc_heap_new V o
  refine ⟨fun k hk => ?_, (hB.cell (p := ⟨8, 0, none⟩) hM).trans hm, .inl ⟨0, 0, 0, 0, [], by omega, by omega, by omega, by omega, by omega, ⟨?_, ?_⟩, ?_, hJ _ _ _ h0 (Below.only hB), by rw [hall]; rfl⟩⟩
  · have h1 : (((W.alloc (.cells #[.string s, .int .i64 0, .int .i64 0, .int .i64 0, y, .bool false] 239)).alloc (.cells #[.pointer (some ⟨W.heap.size, 0, none⟩)] 237)).alloc (.cells #[.int .i64 0] 3)).heap.size = W.heap.size + 3 := by simp
    rw [h1]
    rcases hk with rfl | rfl | rfl | rfl <;> omega
  · have := a0 (W.alloc (.cells #[.string s, .int .i64 0, .int .i64 0, .int .i64 0, y, .bool false] 239)) (.cells #[.pointer (some ⟨W.heap.size, 0, none⟩)] 237)
    simp only [World.size_alloc] at this
    exact (Below.heap_alloc _ _ _ (by simp)).trans this
  · have := a0 ((W.alloc (.cells #[.string s, .int .i64 0, .int .i64 0, .int .i64 0, y, .bool false] 239)).alloc (.cells #[.pointer (some ⟨W.heap.size, 0, none⟩)] 237)) (.cells #[.int .i64 0] 3)
    simp only [World.size_alloc] at this
    exact this
  · exact (Below.heap_alloc _ _ _ (by simp; omega)).trans ((Below.heap_alloc _ _ _ (by simp)).trans (a0 W _))

set_option maxHeartbeats 2000000 in
set_option maxRecDepth 100000 in
theorem each_any (l : Nat) (s : ByteArray) (m : Int) (all : List Pt) (J Jx : List Pt → World → Prop) (W : World)
    (hJ : Abides2 (OwnS W.heap.size) J) (hJx : Abides2 (OwnS W.heap.size) Jx) (hY : Rounds Tryz.prog (OwnS W.heap.size) l all J Jx) (hs : s.size ≤ 1000000)
    (hm : W.cell? ⟨8, 0, none⟩ = some (.int .i64 m)) (h0 : J [] W) (hall : all = eachF s.data.toList 0 0 0 0) :
    Calls Tryz.prog 97 #[.string s, .func (.yield l) #[] #[]] W (EachPost all J Jx) := by
  have hmf : ∀ (fn : Fn) (first cap : Array Value) (w : World), (Instr.makeFunc fn first cap).run Tryz.prog w = .ok (.func fn first cap) w := fun _ _ _ _ => rfl
  have hMs : 8 < W.heap.size := World.block_lt_of_cell? W ⟨8, 0, none⟩ hm
  have HM := Lib.hid hm
  have HA := Lib.hid hall
  clear hm hall
  go_enter Tryz.func97, Tryz.ntmps97
  go_wp2
  go_step3
  go_wp2
  go_step3
  go_wp2
  go_loopg [7] (s.size + 1) (ERel W.heap.size s m (.func (.yield l) #[] #[]) all J Jx)
  case atStart => exact e_start hMs HM.out hJ h0 HA.out
  case round =>
    obtain ⟨hSlt, hm, hrel⟩ := hrel
    rcases hrel with ⟨p, c, ln, bg, pre, hg, hp, hcp, hln, hbg, hC, hr, hj, hall⟩ | ⟨q, x1, x2, x3, c, hC, hr, hq, hpre⟩
    · have r1 := hr.c1
      have r5 := hr.c5
      have k1 := hC.cpr
      have HALL := Lib.hid hall
      clear hall
      by_cases hlt : p < s.size
      · go_upto_block 2 with fail
        go_cut [8, 9, 10, 11] (fun k z b e wx => wr = wx ∧ ∃ kd sz bd en, k = .int .i64 (kd : Nat) ∧ z = .int .i64 (sz : Nat) ∧ b = .int .i64 (bd : Nat) ∧ e = .int .i64 (en : Nat) ∧ tokF (s.data.toList.drop p) = (kd, sz, bd, en) ∧ kd ≠ 0)
        case first =>
          have hlen : 0 < (s.extract p s.size).size := by simp; omega
          have hh := head_eq s p hlen
          have HH := Lib.hid hh
          have f1 := hr.fz 1
          clear hh
          by_cases h34 : (((s.extract p s.size)[0].toNat : Int) == 34) = true
          · go_wp2_with (go_at_call 135; refine (quoted_rest s p _ hs).mono ?_; rintro e w' ⟨rfl, rfl⟩)
            go_meet
            refine ⟨rfl, 1, _, 1, _, rfl, rfl, rfl, rfl, ?_, by decide⟩
            rw [← List.drop_drop]
            refine tok_quote ?_
            rw [HH.out]
            exact congrArg some (byte_eq (n := 34) (by decide) h34)
          · have h34' : (((s.extract p s.size)[0].toNat : Int) == 34) = false := by simpa using h34
            have hne : (s.data.toList.drop p).head? ≠ some 34 := by
              rw [HH.out]
              intro e
              exact byte_ne (n := 34) (by decide) (by simpa using h34) (Option.some.inj e)
            have HNE := Lib.hid hne
            have hrl : (s.data.toList.drop p).length = s.size - p := by simp
            have HRL := Lib.hid hrl
            clear h34 hne hrl
            by_cases hA : Lib.hasPrefix (s.data.toList.drop p) [47, 47] = true
            · have HAp := Lib.hid hA
              clear hA
              by_cases hn : nlF (s.data.toList.drop p) < (s.data.toList.drop p).length
              · have HN := Lib.hid hn
                have hn2 : nlF (s.data.toList.drop p) ≤ 1000000 := by rw [HRL.out] at hn; omega
                clear hn
                go_wp2_with (first | (go_at_call 136; refine (hp_rest s _ p _ true HAp.out).mono ?_; rintro e w' ⟨rfl, rfl⟩) | (go_at_call 137; refine (ixr_yes s p _ HN.out).mono ?_; rintro e w' ⟨rfl, rfl⟩))
                go_meet
                exact ⟨rfl, 2, _, 2, _, rfl, rfl, rfl, rfl, tok_line HNE.out HAp.out, by decide⟩
              · have HN := Lib.hid hn
                clear hn
                go_wp2_with (first | (go_at_call 136; refine (hp_rest s _ p _ true HAp.out).mono ?_; rintro e w' ⟨rfl, rfl⟩) | (go_at_call 137; refine (ixr_no s p _ HN.out).mono ?_; rintro e w' ⟨rfl, rfl⟩))
                go_meet
                have hq : nlF (s.data.toList.drop p) = s.size - p := by
                  have := nlF_le (s.data.toList.drop p)
                  have h2 := HN.out
                  rw [HRL.out] at this h2
                  omega
                refine ⟨rfl, 2, nlF (s.data.toList.drop p), 2, nlF (s.data.toList.drop p), rfl, ?_, rfl, ?_, tok_line HNE.out HAp.out, by decide⟩
                · rw [hq]
                · rw [hq]
            · have hA' : Lib.hasPrefix (s.data.toList.drop p) [47, 47] = false := by simpa using hA
              have HAp := Lib.hid hA'
              clear hA hA'
              by_cases hB : Lib.hasPrefix (s.data.toList.drop p) [47, 42] = true
              · have HBp := Lib.hid hB
                clear hB
                have h2p : p + 2 ≤ s.size := by
                  obtain ⟨t, ht⟩ := prefix2 HBp.out
                  have := HRL.out
                  rw [ht] at this
                  simp at this
                  omega
                by_cases hI : Lib.index ((s.data.toList.drop p).drop 2) [42, 47] < 0
                · have hi1 : Lib.index ((s.data.toList.drop p).drop 2) [42, 47] = -1 := by have := Lib.index_ge ((s.data.toList.drop p).drop 2) [42, 47]; omega
                  have HI := Lib.hid hi1
                  have HJ := Lib.hid hI
                  clear hI hi1
                  go_wp2_with fail
                  refine (hp_rest s _ p _ false HAp.out).mono ?_
                  rintro e w' ⟨rfl, rfl⟩
                  go_wp2_with fail
                  refine (hp_rest s _ p _ true HBp.out).mono ?_
                  rintro e w' ⟨rfl, rfl⟩
                  go_wp2_with fail
                  refine (ixb s p m _ hs hm _ HI.out).mono ?_
                  rintro e w' ⟨rfl, rfl⟩
                  go_wp2
                  go_meet
                  exact ⟨rfl, 2, s.size - p, 2, s.size - p, rfl, rfl, rfl, rfl, by rw [tok_open HNE.out HAp.out HBp.out HJ.out, HRL.out], by decide⟩
                · obtain ⟨n, hn⟩ : ∃ n : Nat, Lib.index ((s.data.toList.drop p).drop 2) [42, 47] = n := ⟨_, (Int.toNat_of_nonneg (by omega)).symm⟩
                  have hn2 : n ≤ 1000000 := by
                    have := index_room ((s.data.toList.drop p).drop 2) [42, 47] (by omega)
                    rw [hn] at this
                    simp at this
                    omega
                  have HN := Lib.hid hn
                  clear hn hI
                  go_wp2_with fail
                  refine (hp_rest s _ p _ false HAp.out).mono ?_
                  rintro e w' ⟨rfl, rfl⟩
                  go_wp2_with fail
                  refine (hp_rest s _ p _ true HBp.out).mono ?_
                  rintro e w' ⟨rfl, rfl⟩
                  go_wp2_with fail
                  refine (ixb s p m _ hs hm _ HN.out).mono ?_
                  rintro e w' ⟨rfl, rfl⟩
                  go_wp2
                  go_meet
                  exact ⟨rfl, 2, n + 4, 2, n + 2, rfl, rfl, rfl, rfl, tok_block HNE.out HAp.out HBp.out n HN.out, by decide⟩
              · have hB' : Lib.hasPrefix (s.data.toList.drop p) [47, 42] = false := by simpa using hB
                have HBp := Lib.hid hB'
                clear hB hB'
                go_wp2_with fail
                refine (hp_rest s _ p _ false HAp.out).mono ?_
                rintro e w' ⟨rfl, rfl⟩
                go_wp2_with fail
                refine (hp_rest s _ p _ false HBp.out).mono ?_
                rintro e w' ⟨rfl, rfl⟩
                go_wp2
                go_roundg (gk - 1)
                case measure => omega
                case rel => exact e_code hlt hSlt hm hg hcp hln hbg hC hr hj HALL.out (tok_code HNE.out HAp.out HBp.out) hJ
        case rest =>
          obtain ⟨rfl, kd, sz, bd, en, rfl, rfl, rfl, rfl, htok, hkd⟩ := hcut
          have hbd := tokF_bd (s.data.toList.drop p)
          have hsz := tokF_size (s.data.toList.drop p)
          have hle := tokF_le (s.data.toList.drop p) (by intro e; have := congrArg List.length e; simp at this; omega)
          rw [htok] at hbd hsz hle
          simp only [List.length_drop] at hbd hsz hle
          obtain ⟨hbd, hen⟩ := hbd
          have hle : p + sz ≤ s.size := by have e : s.data.toList.length = s.size := by simp
                                           omega
          have hlen : p < s.data.toList.length := by simpa using hlt
          have hb1 := tellF_bounds s.data.toList 0 c p p p ln bg hln hbg hcp
          have hALL := HALL.out
          rw [eachF_tok _ p c ln bg hlen (by rw [htok]; exact hkd) kd sz bd en htok] at hALL
          generalize hAe : tellF s.data.toList 0 c p p p ln bg = A at hALL hb1
          have hb2 := tellF_bounds s.data.toList kd p (p + sz) (p + bd) (p + en) A.2.1 A.2.2 hb1.1 hb1.2 (by omega)
          have hfl := flush_any (OwnS W.heap.size) W.heap.size (W.heap.size + 1) (W.heap.size + 1 + 1) l s p c ln bg all pre ((tellF s.data.toList kd p (p + sz) (p + bd) (p + en) A.2.1 A.2.2).1 ++
            eachF s.data.toList (p + sz) (p + sz) (tellF s.data.toList kd p (p + sz) (p + bd) (p + en) A.2.1 A.2.2).2.1 (tellF s.data.toList kd p (p + sz) (p + bd) (p + en) A.2.1 A.2.2).2.2) J Jx wr
            ⟨.inr (.inl rfl), Nat.ne_of_gt hMs⟩ hSlt hJ hJx hY hs hp hln hbg hcp hC hr hj (by rw [hALL, hAe]; simp only [List.append_assoc])
          rw [hAe] at hfl
          have hnb : 8 ≠ W.heap.size ∧ 8 ≠ W.heap.size + 1 + 1 := by
            refine ⟨fun e => ?_, fun e => ?_⟩
            · have h0 := hr.c0
              rw [← e] at h0
              rw [hm] at h0
              cases h0
            · have := hMs
              omega
          have HFL := Lib.hid hfl
          have HB := Lib.hid (And.intro hALL (And.intro hb1 hb2))
          have HTK := Lib.hid htok
          have HMm := Lib.hid hm
          clear hfl hALL hb1 hb2 hAe htok hm
          go_wp2_with (go_at_call 133; refine HFL.out.mono ?_; rintro e W1 ⟨rfl, hK1, hd1⟩)
          have hC1 : Caught W1 W.heap.size (W.heap.size + 1) (W.heap.size + 1 + 1) c := hC.keep (hK1.2 _ (.inr (.inr (.inl rfl))) (by omega)) (hK1.2 _ (.inr (.inr (.inr rfl))) (by omega))
          have k1' := hC1.cpr
          obtain ⟨ov1, y1, y2, hr1⟩ := told_reader hd1
          have r1' := hr1.c1
          refine wp_region_still_tail 24 (by kernel_rfl) (by kernel_rfl) ?_
          simp only [List.take_succ_cons, List.take_zero, List.drop_succ_cons, List.drop_zero]
          change wpStill _ _ W1.drew _ _ _
          repeat still_step
          refine wpStill_nil ?_
          change wpList _ _ _ _ _ W1.drew
          go_wp2_with fail
          obtain ⟨hALL, hb1, hb2⟩ := HB.out
          rcases hd1 with ⟨hr1, hj1⟩ | ⟨q, y1, y2, hr1, hj1, hq1⟩
          · have ht : Calls Tryz.prog 134 #[.pointer (some ⟨W.heap.size, 0, none⟩), .int .i64 kd, .int .i64 p, .int .i64 ((p : Int) + sz), .int .i64 ((p : Int) + bd), .int .i64 ((p : Int) + en)] W1.drew _ :=
              tell_any (OwnS W.heap.size) W.heap.size l s p kd p (p + sz) (p + bd) (p + en) A.2.1 A.2.2 all (pre ++ A.1)
                (eachF s.data.toList (p + sz) (p + sz) (tellF s.data.toList kd p (p + sz) (p + bd) (p + en) A.2.1 A.2.2).2.1 (tellF s.data.toList kd p (p + sz) (p + bd) (p + en) A.2.1 A.2.2).2.2) J Jx W1.drew
                ⟨.inr (.inl rfl), Nat.ne_of_gt hMs⟩ (own_lt hSlt hK1.1) hJ hJx hY hs hle (by omega) (by omega) (by have := tokF_kd (s.data.toList.drop p); rw [HTK.out] at this; exact this) hb1.1 hb1.2 (by omega) (hr1.drewN 1) (hJ _ _ _ hj1 ((Only.refl _ W1).drewN 1)) (by rw [hALL]; simp only [List.append_assoc])
            refine ht.mono ?_
            rintro e W2 ⟨rfl, hK2, hd2⟩
            have hC2 : Caught W2 W.heap.size (W.heap.size + 1) (W.heap.size + 1 + 1) c := hC1.keep (hK2.2 _ (.inr (.inr (.inl rfl))) (by omega)) (hK2.2 _ (.inr (.inr (.inr rfl))) (by omega))
            obtain ⟨ov2, z1, z2, hr2⟩ := told_reader hd2
            have k2 := hC2.cpr
            have k3 := hC2.ccc
            have k4 := hC2.fz
            have r2 := hr2.c1
            have f2 := hr2.fz 1
            have HD := Lib.hid (And.intro hd2 (And.intro hALL hb2))
            clear hd2 hALL hb1 hb2 ht
            go_wp2
            go_roundg (gk - 1)
            case measure => omega
            case rel =>
              obtain ⟨hd2, hALL, hb2⟩ := HD.out
              exact e_next hsz hle (own_lt (own_lt hSlt hK1.1) hK2.1) hnb (cell_keep (cell_keep HMm.out (hK1.2 _ (.inl rfl) hnb.1)) (hK2.2 _ (.inl rfl) hnb.1)) hg hb2.1 hb2.2 hC2 hJ hJx hd2 (fun _ => by rw [hALL]; simp only [List.append_assoc])
          · refine (tell_over W.heap.size s p y1 y2 _ _ _ _ _ _ _ (hr1.drewN 1)).mono ?_
            rintro e W2 ⟨rfl, rfl⟩
            have k3 := hC1.ccc
            have k4 := hC1.fz
            have f2 := hr1.fz 1
            go_wp2
            go_roundg (gk - 1)
            case measure => omega
            case rel => exact e_next (ln2 := 0) (bg2 := 0) (pre2 := []) hsz hle (own_lt hSlt hK1.1) hnb (cell_keep HMm.out (hK1.2 _ (.inl rfl) hnb.1)) hg (Nat.le_refl _) (by omega) (hC1.keep (W' := W1.drewN 1) rfl rfl) hJ hJx (.inr ⟨q, y1, y2, hr1.drewN 1, hJx _ _ _ hj1 ((Only.refl _ W1).drewN 1), hq1⟩) (fun h => by have := h.c5; rw [(hr1.drewN 1).c5] at this; cases this)
      · have hfl := flush_any (OwnS W.heap.size) W.heap.size (W.heap.size + 1) (W.heap.size + 1 + 1) l s p c ln bg all pre [] J Jx
        have hend := HALL.out
        rw [eachF_end _ _ _ _ _ (by simpa using hlt)] at hend
        have HF := Lib.hid (hfl wr ⟨.inr (.inl rfl), Nat.ne_of_gt hMs⟩ hSlt hJ hJx hY hs hp hln hbg hcp hC hr hj (by rw [hend]; simp))
        have HE := Lib.hid hend
        clear hfl hend
        go_wp2_with (go_at_call 133; refine HF.out.mono ?_; rintro e W1 ⟨rfl, hK1, hd1⟩)
        simp only [Exit.noGoto]
        go_end0
        refine ⟨rfl, ?_⟩
        rcases hd1 with ⟨_, hj1⟩ | ⟨q, _, _, _, hj1, hq1⟩
        · exact .inl (by rw [HE.out]; exact hj1)
        · exact .inr ⟨q, hj1, hq1⟩
    · have r1 := hr.c1
      have r5 := hr.c5
      have k1 := hC.cpr
      by_cases hlt : x1 < s.size
      · go_wp2
        simp only [Exit.noGoto]
        go_end0
        exact ⟨rfl, .inr ⟨q, hq, hpre⟩⟩
      · go_wp2
        simp only [Exit.noGoto]
        go_end0
        exact ⟨rfl, .inr ⟨q, hq, hpre⟩⟩
end Go.Proofs.YtcnpkijjnbhagaaGreatDoor
