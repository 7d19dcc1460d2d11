/- The reference's tokens, walked. -/
import Derived.Test.YtcnpkijjnbhagaaGreatDoorWord2
import Derived.OwnWalk
import Derived.Maps.AppendAt
namespace Go.Proofs.YtcnpkijjnbhagaaGreatDoor
open Go.RowKit

theorem Tryz.infoTok : (Tryz.prog.info? 103).map (fun i => (i.zero, i.size, i.bytes)) = some (some (.agg #[.int .i64 0, .int .i64 0, .int .i64 0, .int .i64 0, .int .i64 0]), 5, 40) := by kernel_rfl
/-- A token's cells. -/
def tkc (t : Tk) : List Value := [.int .i64 t.kd, .int .i64 t.fr, .int .i64 t.to, .int .i64 t.bd, .int .i64 t.en]
def TkPost (s : ByteArray) (w : World) (e : Ending) (w' : World) : Prop :=
  ∃ v, e = .returned v ∧ w'.ownsRow w.heap.size 103 5 v (toksF s.data.toList 0 0).length ((toksF s.data.toList 0 0).flatMap tkc) ∧ Below w.heap.size w w'
def TkRel (s : ByteArray) (w : World) (v p : Value) (wr : World) : Prop :=
  ∃ (k c : Nat) (L : List Tk), p = .int .i64 k ∧ k ≤ s.size ∧ c ≤ k ∧ L.length ≤ c ∧ wr.ownsRow w.heap.size 103 5 v (L ++ pend c k).length ((L ++ pend c k).flatMap tkc) ∧
    L ++ toksF s.data.toList k c = toksF s.data.toList 0 0 ∧ (∀ x, L.getLast? = some x → x.kd ≠ 0) ∧ Below w.heap.size w wr
theorem own_below {W w1 : World} {base B : Nat} {e : TypeId} {size : Nat} {v : Value} {n : Nat} {xs : List Value} (h : W.ownsRow base e size v n xs) (hB : Below B W w1) (hb : B = W.heap.size) : w1.ownsRow base e size v n xs := by
  subst hb
  exact h.kept (row := none) ⟨hB.os, hB.tape, hB.output, hB.size, fun i hi _ => hB.block i hi⟩ (by cases v.ownBlock <;> simp)
theorem flat_len (L : List Tk) : (L.flatMap tkc).length = L.length * 5 := by
  induction L with
  | nil => rfl
  | cons x r ih => simp only [List.flatMap_cons, List.length_append, ih, List.length_cons]; simp [tkc]; omega
theorem pend_len (c k : Nat) : (pend c k).length ≤ 1 := by unfold pend; split <;> simp
theorem pend_same (k : Nat) : pend k k = [] := by unfold pend; rw [if_neg (by omega)]
theorem tok_shape {W : World} {base : Nat} {e : TypeId} {size : Nat} {v : Value} {k : Nat} {xs : List Value} (h : W.ownsRow base e size v k xs) : ∃ o c, v = .slice o k c := by
  rcases h.2 with ⟨rfl, rfl⟩ | ⟨g, cap, cur, rfl, _⟩
  · exact ⟨_, _, rfl⟩
  · exact ⟨_, _, rfl⟩
theorem own_form {W : World} {base : Nat} {e : TypeId} {size : Nat} {vo : Option Addr} {k vc : Nat} {xs : List Value} (h : W.ownsRow base e size (.slice vo (k + 1) vc) (k + 1) xs) : ∃ g, vo = some ⟨g, 0, none⟩ := by
  rcases h.2 with ⟨h1, _⟩ | ⟨g, cap, cur, h1, _⟩
  · injection h1 with _ h2 _
    omega
  · injection h1 with h2 _ _
    exact ⟨g, h2⟩
theorem tok_cells (W : World) (x : Tk) (o : Obj) (ho : o = .cells (tkc x).toArray 103 (0, 0)) : ∀ (j : Nat) (u : Value), (tkc x)[j]? = some u → (W.alloc o).cell? (Addr.add ⟨W.heap.size, 0, none⟩ j) = some u := by
  intro j u hu
  subst ho
  rw [show Addr.add ⟨W.heap.size, 0, none⟩ j = ⟨W.heap.size, j, none⟩ from by unfold Addr.add; split <;> simp_all]
  rw [cell_of_row _ _ _ _ _ _ (heap_alloc_new W _)]
  simpa using hu
theorem tok_cells2 (W : World) (o1 : Obj) (g : Nat) (hg : g = W.heap.size + 1) (x : Tk) : ∀ (j : Nat) (u : Value), (tkc x)[j]? = some u → ((W.alloc o1).alloc (.cells (tkc x).toArray 103 (0, 0))).cell? (Addr.add ⟨g, 0, none⟩ j) = some u := by
  have := tok_cells (W.alloc o1) x _ rfl
  rw [World.size_alloc] at this
  subst hg
  exact this
theorem tok_box {w1 w2 : World} {cs : Array Value} {t : TypeId} {o' : Obj} {row : Option Nat} (hg : ((w1.alloc (.cells cs t)).alloc o').grownBy w2 row) (hr : ∀ g, row = some g → g < w1.heap.size) (j : Nat) : w2.cell? ⟨w1.heap.size, j, none⟩ = cs[j]? := by
  have h1 := hg.block w1.heap.size (by simp only [World.size_alloc]; omega) (fun e => by have := hr _ e.symm; omega)
  have h2 : ((w1.alloc (.cells cs t)).alloc o').heap[w1.heap.size]? = some (.cells cs t (0, 0)) := (Below.heap_alloc _ o' _ (by simp only [World.size_alloc]; omega)).trans (heap_alloc_new w1 _)
  exact cell_of_row _ _ _ _ _ _ (h1.trans h2)
/-- A token is put behind the others. -/
theorem tk_more {s : ByteArray} {w wr w1 w2 : World} {v v' : Value} {n k c : Nat} {P : List Value} {L : List Tk} {T : Tk} {o o' : Obj} (hk : k < s.size) (hc : c ≤ k) (hL : L.length ≤ c) (hw : wordF s.data.toList k = T) (hT0 : T.kd = 0 → c = k)
    (hT : L ++ toksF s.data.toList k c = toksF s.data.toList 0 0) (hlast : ∀ x, L.getLast? = some x → x.kd ≠ 0) (hB : Below w.heap.size w wr) (hB1 : Below wr.heap.size wr w1)
    (hv : ∀ g, v.ownBlock = some g → w.heap.size ≤ g)
    (hn : n = (L ++ pend c k).length) (hP : P = (L ++ pend c k).flatMap tkc) (ho : w2.ownsRow w.heap.size 103 5 v' (n + 1) (P ++ tkc T)) (hg : ((w1.alloc o).alloc o').grownBy w2 v.ownBlock) :
    TkRel s w v' (.int .i64 T.to) w2 ∧ s.size - (intOf (.int .i64 T.to)).toNat < s.size - (intOf (.int .i64 k)).toNat := by
  have hto := wordF_to s.data.toList k
  have hle := wordF_le s.data.toList k (by simpa using hk)
  have hsz : s.data.toList.length = s.size := by simp
  have hpl := pend_len c k
  subst hn
  subst hP
  rw [hw] at hto hle
  have hfl : (L ++ pend c k).flatMap tkc ++ tkc T = (L ++ pend c k ++ [T]).flatMap tkc := by simp
  have hll : (L ++ pend c k).length + 1 = (L ++ pend c k ++ [T]).length := by simp [Nat.add_assoc]
  rw [hfl, hll] at ho
  have hBB : Below w.heap.size w w2 := (((hB.trans (hB1.mono hB.size)).alloc (Nat.le_trans hB.size hB1.size) o).alloc (Nat.le_trans (Nat.le_trans hB.size hB1.size) (by simp)) o').grown hg (by have := hB.size; have := hB1.size; simp; omega) hv
  refine ⟨?_, by simp [intOf]; omega⟩
  by_cases h0 : T.kd = 0
  · have hck := hT0 h0
    subst hck
    rw [pend_same, List.append_nil] at ho
    have hTw : T = ⟨0, c, c + 1, 0, 0⟩ := by
      rw [← hw]
      unfold wordF
      split
      · rfl
      · rename_i h
        rw [← hw] at h0
        unfold wordF at h0
        rw [if_neg h] at h0
        exact absurd h0 h
    have h00 : (tokF (s.data.toList.drop c)).1 = 0 := by
      by_cases h : (tokF (s.data.toList.drop c)).1 = 0
      · exact h
      · rw [← hw] at h0
        unfold wordF at h0
        rw [if_neg h] at h0
        exact h0
    subst hTw
    refine ⟨c + 1, c, L, rfl, by omega, by omega, by omega, ?_, ?_, hlast, hBB⟩
    · rw [show pend c (c + 1) = [⟨0, c, c + 1, 0, 0⟩] from by unfold pend; rw [if_pos (by omega)]]
      exact ho
    · rw [← hT, toksF_code _ _ _ (by omega) h00]
  · have h00 : (tokF (s.data.toList.drop k)).1 ≠ 0 := by
      intro h
      rw [← hw] at h0
      unfold wordF at h0
      rw [if_pos h] at h0
      exact h0 rfl
    refine ⟨T.to, T.to, L ++ pend c k ++ [T], rfl, by omega, Nat.le_refl _, ?_, ?_, ?_, ?_, hBB⟩
    · have : (pend c k).length ≤ k - c := by unfold pend; split <;> simp <;> omega
      simp only [List.length_append, List.length_cons, List.length_nil]
      omega
    · rw [pend_same, List.append_nil]; exact ho
    · rw [← hT, toksF_tok _ _ _ (by omega) h00, hw]
      simp
    · intro x hx
      rw [List.getLast?_append] at hx
      simp at hx
      subst hx
      exact h0
theorem tk_code {l : List UInt8} {k : Nat} (h : (wordF l k).kd = 0) : wordF l k = ⟨0, k, k + 1, 0, 0⟩ ∧ (tokF (l.drop k)).1 = 0 := by
  by_cases h0 : (tokF (l.drop k)).1 = 0
  · exact ⟨by unfold wordF; rw [if_pos h0], h0⟩
  · unfold wordF at h
    rw [if_neg h0] at h
    exact absurd h h0
/-- The code that is open goes on. -/
theorem tk_on {s : ByteArray} {w wr w1 : World} {g m vc : Nat} {k c : Nat} {L : List Tk} {P : List Value} {o : Obj} (hk : k < s.size) (hc : c < k) (hL : L.length ≤ c) (hn : m + 1 = (L ++ pend c k).length) (hP : P = (L ++ pend c k).flatMap tkc)
    (h0 : (tokF (s.data.toList.drop k)).1 = 0) (hT : L ++ toksF s.data.toList k c = toksF s.data.toList 0 0) (hlast : ∀ x, L.getLast? = some x → x.kd ≠ 0) (hB : Below w.heap.size w wr) (hB1 : Below wr.heap.size wr w1)
    (hg : w.heap.size ≤ g) (ho : w1.ownsRow w.heap.size 103 5 (.slice (some ⟨g, 0, none⟩) (m + 1) vc) (m + 1) P) :
    TkRel s w (.slice (some ⟨g, 0, none⟩) (m + 1) vc) (.int .i64 ((k : Int) + 1)) ((w1.setCell ⟨g, m * 5 + 2, none⟩ (.int .i64 ((k : Int) + 1))).alloc o) := by
  have hm : m = L.length := by
    rw [List.length_append, show pend c k = [⟨0, c, k, 0, 0⟩] from by unfold pend; rw [if_pos hc]] at hn
    simpa using hn
  have hp1 : pend c (k + 1) = [⟨0, c, k + 1, 0, 0⟩] := by unfold pend; rw [if_pos (by omega)]
  have hst := ((ho.stored (m * 5 + 2) (.int .i64 ((k : Int) + 1))).1).alloc o
  have hPs : P.set (m * 5 + 2) (.int .i64 ((k : Int) + 1)) = (L ++ pend c (k + 1)).flatMap tkc := by
    rw [hP, show pend c k = [⟨0, c, k, 0, 0⟩] from by unfold pend; rw [if_pos hc], hp1, List.flatMap_append, List.flatMap_append, List.set_append_right _ _ (by rw [flat_len]; omega), flat_len, hm,
      show L.length * 5 + 2 - L.length * 5 = 2 from by omega]
    rfl
  rw [hPs] at hst
  refine ⟨k + 1, c, L, rfl, by omega, by omega, hL, ?_, ?_, hlast, ((hB.trans (hB1.mono hB.size)).setCell (p := ⟨g, m * 5 + 2, none⟩) hg _).alloc (by have := hB.size; have := hB1.size; simp only [World.size_setCell]; omega) o⟩
  · rw [show (L ++ pend c (k + 1)).length = m + 1 from by rw [hp1, hm]; simp]
    exact hst
  · rw [← hT, toksF_code _ _ _ (by simpa using hk) h0]

set_option maxHeartbeats 2000000 in
set_option maxRecDepth 100000 in
theorem tokens_any (s : ByteArray) (w : World) (hs : s.size ≤ 600) : Calls Tryz.prog 51 #[.string s] w (TkPost s w) := by
  obtain ⟨i0, hi, hz0, hz1, hz2⟩ := info_parts Tryz.infoTok
  go_enter Tryz.func51, Tryz.ntmps51
  go_wp2
  go_loopw [3, 4] (TkRel s w) (fun _ p _ => s.size - (intOf p).toNat)
  case atStart => exact ⟨0, 0, [], rfl, Nat.zero_le _, Nat.le_refl _, Nat.le_refl _, by simpa [pend] using World.ownsRow_nil _ _ _ _, rfl, fun x h => by simp at h, Below.refl _ _⟩
  case round =>
    obtain ⟨k, c, L, rfl, hk, hc, hL, ho, hT, hlast, hB⟩ := hrel
    by_cases hlt : k < s.size
    · have HW := Lib.hid (word_any s k wr (by omega) hlt)
      have HT := Lib.hid hT
      have HLa := Lib.hid hlast
      clear hT hlast
      obtain ⟨kd, fr, to, bd, en, hw⟩ : ∃ kd fr to bd en, wordF s.data.toList k = ⟨kd, fr, to, bd, en⟩ := ⟨_, _, _, _, _, rfl⟩
      have HWF := Lib.hid hw
      obtain ⟨n, hn⟩ : ∃ n, n = (L ++ pend c k).length := ⟨_, rfl⟩
      obtain ⟨P, hP⟩ : ∃ P, P = (L ++ pend c k).flatMap tkc := ⟨_, rfl⟩
      rw [← hn, ← hP] at ho
      have hn6 : n ≤ 601 := by have := pend_len c k; simp only [List.length_append] at hn; omega
      obtain ⟨vo, vc, rfl⟩ := tok_shape ho
      have hvb := Lib.hid ho.lt
      have HO := Lib.hid ho
      have HN := Lib.hid hn
      have HP := Lib.hid hP
      clear hw ho hn hP
      by_cases h0 : kd = 0
      · obtain ⟨hwc, h00⟩ := tk_code (l := s.data.toList) (k := k) (by rw [HWF.out]; exact h0)
        have HZ := Lib.hid h00
        have HWC := Lib.hid hwc
        have HW' : Hid (Calls Tryz.prog 95 #[.string s, .int .i64 k] wr fun e w' => e = .returned (.agg #[.int .i64 0, .int .i64 k, .int .i64 ((k : Int) + 1), .int .i64 0, .int .i64 0]) ∧ Below wr.heap.size wr w') := HW.out.mono fun e w' ⟨he, hb⟩ => ⟨by rw [he, HWC.out]; rfl, hb⟩
        clear HW hwc h00 h0
        by_cases hck : c < k
        · obtain ⟨m, rfl⟩ : ∃ m, n = m + 1 := ⟨n - 1, by have := HN.out; rw [show pend c k = [⟨0, c, k, 0, 0⟩] from by unfold pend; rw [if_pos hck]] at this; simp at this; omega⟩
          obtain ⟨g, rfl⟩ := own_form HO.out
          have hgb := hvb.out g rfl
          have hcell : Hid (P[m * 5]? = some (.int .i64 0)) := by
            have hm : m = L.length := by
              have := HN.out
              rw [List.length_append, show pend c k = [⟨0, c, k, 0, 0⟩] from by unfold pend; rw [if_pos hck]] at this
              simpa using this
            rw [HP.out, show pend c k = [⟨0, c, k, 0, 0⟩] from by unfold pend; rw [if_pos hck], List.flatMap_append, List.getElem?_append_right (by rw [flat_len]; omega), flat_len, hm, Nat.sub_self]
            exact rfl
          go_wp2_with (go_at_call 95; refine HW'.out.mono ?_; clear HW'; rintro e w1 ⟨rfl, hB1⟩; have hs1 := own_below HO.out hB1 rfl; have hgl : g < w1.heap.size := Nat.lt_of_lt_of_le hgb.2 hB1.size; have hc0 := (hs1.cellAt (m * 5) (by omega)).trans hcell.out; have hf0 := hs1.frozenAt (m * 5 + 2); obtain ⟨u2, hu2⟩ : ∃ u, w1.cell? ⟨g, m * 5 + 2, none⟩ = some u := ⟨_, (hs1.cellAt (m * 5 + 2) (by omega)).trans (List.getElem?_eq_getElem (by rw [hs1.1]; omega))⟩)
          go_roundw
          case rel => exact tk_on hlt hck hL HN.out HP.out HZ.out HT.out HLa.out hB hB1 hgb.1 hs1
          case measure => simp [intOf]; omega
        · have HCK : Hid (c = k) := by exact (by omega : c = k)
          clear hck
          rcases n with _ | m
          · go_wp2_with (first | (go_at_call 95; refine HW'.out.mono ?_; clear HW'; rintro e w1 ⟨rfl, hB1⟩; have hs1 := own_below HO.out hB1 rfl) | (at_builtin; refine wpList_append_own _ rfl _ _ 101 rfl w.heap.size 103 i0 (.agg #[.int .i64 0, .int .i64 0, .int .i64 0, .int .i64 0, .int .i64 0]) 5 40 Tryz.underlying101 hi hz0 hz1 hz2 rfl (by decide) _ _ _ rfl ((hs1.alloc _).alloc _) ⟨w1.heap.size + 1, 0, none⟩ 1 1 (tkc ⟨0, k, k + 1, 0, 0⟩) rfl rfl ?c1 (by simp [Value.oneCell', tkc]) (by unfold maxLen; omega) (by omega) (by have := hB.size; have := hB1.size; simp; omega) ?_; rotate_left; intro v' w2 ho' hg _; have hbx := tok_box hg (fun g e => Nat.lt_of_lt_of_le (hvb.out g e).2 hB1.size) 2; simp only [List.getElem?_toArray, List.getElem?_cons_succ, List.getElem?_cons_zero] at hbx))
            case c1 => exact tok_cells2 _ _ _ rfl (⟨0, k, k + 1, 0, 0⟩ : Tk)
            go_roundw
            case rel => exact (tk_more hlt hc hL HWC.out (fun _ => HCK.out) HT.out HLa.out hB hB1 (fun g e => (hvb.out g e).1) HN.out HP.out ho' hg).1
            case measure => exact (tk_more hlt hc hL HWC.out (fun _ => HCK.out) HT.out HLa.out hB hB1 (fun g e => (hvb.out g e).1) HN.out HP.out ho' hg).2
          · obtain ⟨g, rfl⟩ := own_form HO.out
            have hgb := hvb.out g rfl
            obtain ⟨kl, hcell, hkl⟩ : ∃ kl : Nat, Hid (P[m * 5]? = some (.int .i64 kl)) ∧ kl ≠ 0 := by
              have h1 := HN.out
              have h2 := HP.out
              rw [HCK.out, pend_same, List.append_nil] at h1 h2
              have hne : L ≠ [] := by intro h; rw [h] at h1; simp at h1
              obtain ⟨L', x, rfl⟩ : ∃ L' x, L = L' ++ [x] := ⟨_, _, (List.dropLast_concat_getLast hne).symm⟩
              have hm : m = L'.length := by simpa using h1
              refine ⟨x.kd, ?_, HLa.out x (by simp)⟩
              rw [h2, List.flatMap_append, List.getElem?_append_right (by rw [flat_len]; omega), flat_len, hm, Nat.sub_self]
              exact rfl
            have ekl : ((kl : Int) == 0) = false := by simpa using hkl
            clear hkl
            go_wp2_with (first | (go_at_call 95; refine HW'.out.mono ?_; clear HW'; rintro e w1 ⟨rfl, hB1⟩; have hs1 := own_below HO.out hB1 rfl; have hgl : g < w1.heap.size := Nat.lt_of_lt_of_le hgb.2 hB1.size; have hc0 := (hs1.cellAt (m * 5) (by omega)).trans hcell.out) | (at_builtin; refine wpList_append_own _ rfl _ _ 101 rfl w.heap.size 103 i0 (.agg #[.int .i64 0, .int .i64 0, .int .i64 0, .int .i64 0, .int .i64 0]) 5 40 Tryz.underlying101 hi hz0 hz1 hz2 rfl (by decide) _ _ _ rfl ((hs1.alloc _).alloc _) ⟨w1.heap.size + 1, 0, none⟩ 1 1 (tkc ⟨0, k, k + 1, 0, 0⟩) rfl rfl ?c1 (by simp [Value.oneCell', tkc]) (by unfold maxLen; omega) (by omega) (by have := hB.size; have := hB1.size; simp; omega) ?_; rotate_left; intro v' w2 ho' hg _; have hbx := tok_box hg (fun g e => Nat.lt_of_lt_of_le (hvb.out g e).2 hB1.size) 2; simp only [List.getElem?_toArray, List.getElem?_cons_succ, List.getElem?_cons_zero] at hbx))
            case c1 => exact tok_cells2 _ _ _ rfl (⟨0, k, k + 1, 0, 0⟩ : Tk)
            go_roundw
            case rel => exact (tk_more hlt hc hL HWC.out (fun _ => HCK.out) HT.out HLa.out hB hB1 (fun g e => (hvb.out g e).1) HN.out HP.out ho' hg).1
            case measure => exact (tk_more hlt hc hL HWC.out (fun _ => HCK.out) HT.out HLa.out hB hB1 (fun g e => (hvb.out g e).1) HN.out HP.out ho' hg).2
      · have e0 : ((kd : Int) == 0) = false := by simpa using h0
        have HK := Lib.hid h0
        clear h0
        have HW' : Hid (Calls Tryz.prog 95 #[.string s, .int .i64 k] wr fun e w' => e = .returned (.agg #[.int .i64 kd, .int .i64 fr, .int .i64 to, .int .i64 bd, .int .i64 en]) ∧ Below wr.heap.size wr w') := HW.out.mono fun e w' ⟨he, hb⟩ => ⟨by rw [he, HWF.out]; rfl, hb⟩
        clear HW
        go_wp2_with (first | (go_at_call 95; refine HW'.out.mono ?_; clear HW'; rintro e w1 ⟨rfl, hB1⟩; have hs1 := own_below HO.out hB1 rfl) | (at_builtin; refine wpList_append_own _ rfl _ _ 101 rfl w.heap.size 103 i0 (.agg #[.int .i64 0, .int .i64 0, .int .i64 0, .int .i64 0, .int .i64 0]) 5 40 Tryz.underlying101 hi hz0 hz1 hz2 rfl (by decide) _ _ _ rfl ((hs1.alloc _).alloc _) ⟨w1.heap.size + 1, 0, none⟩ 1 1 (tkc ⟨kd, fr, to, bd, en⟩) rfl rfl ?c1 (by simp [Value.oneCell', tkc]) (by unfold maxLen; omega) (by omega) (by have := hB.size; have := hB1.size; simp; omega) ?_; rotate_left; intro v' w2 ho' hg _; have hbx := tok_box hg (fun g e => Nat.lt_of_lt_of_le (hvb.out g e).2 hB1.size) 2; simp only [List.getElem?_toArray, List.getElem?_cons_succ, List.getElem?_cons_zero] at hbx))
        case c1 => exact tok_cells2 _ _ _ rfl _
        go_roundw
        case rel => exact (tk_more hlt hc hL HWF.out (fun h => absurd h HK.out) HT.out HLa.out hB hB1 (fun g e => (hvb.out g e).1) HN.out HP.out ho' hg).1
        case measure => exact (tk_more hlt hc hL HWF.out (fun h => absurd h HK.out) HT.out HLa.out hB hB1 (fun g e => (hvb.out g e).1) HN.out HP.out ho' hg).2
    · have hke : k = s.size := by omega
      have HF : Hid (L ++ pend c k = toksF s.data.toList 0 0) := by
        rw [← hT, toksF_end _ _ _ (by simpa using hlt)]; exact rfl
      have HO := Lib.hid ho
      clear hT hke ho
      go_wp2
      go_ret
      exact ⟨_, rfl, by rw [← HF.out]; exact HO.out, hB⟩
end Go.Proofs.YtcnpkijjnbhagaaGreatDoor
