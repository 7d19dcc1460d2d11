/- The law's check of one text with edits, walked. -/
import Derived.Test.YtcnpkijjnbhagaaGreatDoorAguard
import Derived.Deep.RegionHeld3
import Derived.Deep.AppendLies
namespace Go.Proofs.YtcnpkijjnbhagaaGreatDoor
open Go.RowKit

theorem Tryz.infoEd : (Tryz.prog.info? 70).map (fun i => (i.zero, i.size, i.bytes)) = some (some (.agg #[.int .i64 0, .int .i64 0, .string ⟨#[]⟩]), 3, 32) := by kernel_rfl
/-- An edit's cells. -/
def edc (e : Ed) : List Value := [.int .i64 e.at_, .int .i64 e.cut, .string e.nw]
theorem edc_len (L : List Ed) : (L.flatMap edc).length = L.length * 3 := by
  induction L with
  | nil => rfl
  | cons x r ih => simp only [List.flatMap_cons, List.length_append, ih, List.length_cons]; simp [edc]; omega
theorem edc_get : ∀ (L : List Ed) (k j : Nat) (e : Ed) (u : Value), L[k]? = some e → j < 3 → (edc e)[j]? = some u → (L.flatMap edc)[k * 3 + j]? = some u
  | [], k, j, e, u, h, _, _ => by simp at h
  | a :: r, 0, j, e, u, h, hj, hu => by
    simp at h; subst h
    rw [List.flatMap_cons, List.getElem?_append_left (by simp [edc]; omega)]
    simpa using hu
  | a :: r, k + 1, j, e, u, h, hj, hu => by
    rw [List.flatMap_cons, List.getElem?_append_right (by simp [edc]; omega)]
    rw [show (k + 1) * 3 + j - (edc a).length = k * 3 + j by simp [edc]; omega]
    exact edc_get r k j e u (by simpa using h) hj hu
theorem own_eds {W : World} {base n lc : Nat} {lo : Option Addr} {es : List Ed} (h : W.ownsRow base 70 3 (.slice lo n lc) n (es.flatMap edc)) (hn : n = es.length) : EdsAt W lo es := by
  intro k e he
  have hk : k < es.length := by
    rcases Nat.lt_or_ge k es.length with h' | h'
    · exact h'
    · simp [List.getElem?_eq_none h'] at he
  obtain ⟨g, hg⟩ : ∃ g, lo = some ⟨g, 0, none⟩ := by
    rcases h.2 with ⟨h1, _⟩ | ⟨g, cap, cur, h1, _⟩
    · injection h1 with _ h2 _
      omega
    · injection h1 with h2 _ _
      exact ⟨g, h2⟩
  subst hg
  have c0 := (h.cellAt (k * 3 + 0) (by omega)).trans (edc_get es k 0 e _ he (by omega) rfl)
  have c1 := (h.cellAt (k * 3 + 1) (by omega)).trans (edc_get es k 1 e _ he (by omega) rfl)
  have c2 := (h.cellAt (k * 3 + 2) (by omega)).trans (edc_get es k 2 e _ he (by omega) rfl)
  exact ⟨g, 0, rfl, by simpa using c0, by simpa using c1, by simpa using c2⟩
theorem edc_take {es : List Ed} {k : Nat} {e : Ed} (h : es[k]? = some e) : (es.take k).flatMap edc ++ edc e = (es.take (k + 1)).flatMap edc := by
  rw [List.take_add_one, h]
  simp
def ApRel (W1 : World) (es : List Ed) (l i : Value) (wr : World) : Prop :=
  ∃ k : Nat, i = .int .i64 k ∧ k ≤ es.length ∧ wr.ownsRow W1.heap.size 70 3 l k ((es.take k).flatMap edc) ∧ Below W1.heap.size W1 wr
theorem ap_more {W1 wr w1 : World} {es : List Ed} {k gg cap j : Nat} {v : Value} {e : Ed} {x : Int} {o : Obj} {row : Option Nat} (hx : x = (k : Int) + 1) (he : Hid (es[k]? = some e)) (hB : Below W1.heap.size W1 wr)
    (ho : w1.ownsRow W1.heap.size 70 3 (.slice (some ⟨gg, 0, none⟩) (k + 1) cap) (k + 1) ((es.take k).flatMap edc ++ edc e)) (hg : ((wr.alloc o).drewN j).grownBy w1 row) (hr : row = v.ownBlock) (hv : ∀ g, v.ownBlock = some g → W1.heap.size ≤ g) :
    ApRel W1 es (.slice (some ⟨gg, 0, none⟩) (k + 1) cap) (.int .i64 x) w1 := by
  subst hx; subst hr
  have hk : k < es.length := by
    rcases Nat.lt_or_ge k es.length with h' | h'
    · exact h'
    · have := he.out; simp [List.getElem?_eq_none h'] at this
  have hA := hB.alloc hB.size o
  have hA' : Below W1.heap.size W1 ((wr.alloc o).drewN j) := ⟨hA.os, hA.tape, hA.output, hA.size, hA.block⟩
  rw [edc_take he.out] at ho
  exact ⟨k + 1, rfl, hk, ho, hA'.grown hg hA'.size hv⟩
def Ap2Rel (n : Nat) (W : World) (i : Value) (wr : World) : Prop := ∃ (k : Nat), i = .int .i64 k ∧ k ≤ n ∧ Below W.heap.size W wr
theorem ap2_next {n k j : Nat} {W wr : World} {x : Int} (hx : x = (k : Int) + 1) (hB : Below W.heap.size W wr) (hk : k < n) : Ap2Rel n W (.int .i64 x) (wr.drewN j) := by
  subst hx
  exact ⟨k + 1, rfl, hk, ⟨hB.os, hB.tape, hB.output, hB.size, hB.block⟩⟩
def APost (w : World) (e : Ending) (w' : World) : Prop := e = .returned (.bool true) ∧ Below w.heap.size w w'
theorem own_shape {W : World} {base : Nat} {e : TypeId} {size : Nat} {v : Value} {k : Nat} {xs : List Value} (h : W.ownsRow base e size v k xs) : ∃ o c, v = .slice o k c := by
  rcases h.2 with ⟨rfl, rfl⟩ | ⟨g, cap, cur, rfl, _⟩
  · exact ⟨_, _, rfl⟩
  · exact ⟨_, _, rfl⟩
set_option maxHeartbeats 4000000 in
set_option maxRecDepth 100000 in
theorem applied_any (kd a : Int) (s : ByteArray) (es : List Ed) (vo : Option Addr) (c : Nat) (W : World) (hs : s.size + totE es ≤ 1048576) (hn : es.length ≤ 1048576) (hE : EdsAt W vo es) :
    Calls Tryz.prog 18 #[.agg #[.int .i64 kd, .int .i64 a, .string s, .slice vo es.length c]] W (APost W) := by
  obtain ⟨i0, hi0, hz0, hz1, hz2⟩ := info_parts Tryz.infoEd
  obtain ⟨n, hnn⟩ : ∃ n, n = es.length := ⟨_, rfl⟩
  have HGA := Lib.hid (fun lo lc W => ga_any s es lo lc W hs hn)
  have HRA := Lib.hid (fun lo lc W => ra_any s es lo lc W hs hn)
  rw [← hnn] at hn HGA HRA
  rw [← hnn]
  have HN := Lib.hid hnn
  clear hnn
  obtain ⟨W1, hW1⟩ : ∃ W1, W1 = W.alloc (.cells #[.int .i64 kd, .int .i64 a, .string s, .slice vo n c] 27) := ⟨_, rfl⟩
  have hsz1 : W1.heap.size = W.heap.size + 1 := by rw [hW1]; simp
  have hBW : Below W.heap.size W W1 := by rw [hW1]; exact (Below.refl _ _).alloc (Nat.le_refl _) _
  have b2 : W1.cell? ⟨W.heap.size, 2, none⟩ = some (.string s) := by rw [hW1, cell_of_row _ _ _ _ _ _ (heap_alloc_new W _)]; rfl
  have b3 : W1.cell? ⟨W.heap.size, 3, none⟩ = some (.slice vo n c) := by rw [hW1, cell_of_row _ _ _ _ _ _ (heap_alloc_new W _)]; rfl
  have HE := Lib.hid (hE.below hBW rfl)
  clear hE
  have HW1 := Lib.hid hW1.symm
  clear hW1
  go_enter Tryz.func18, Tryz.ntmps18
  go_wp2
  rw [HW1.out]
  go_loopw [3, 4] (ApRel W1 es) (fun _ i _ => n - (intOf i).toNat)
  case atStart => exact ⟨0, rfl, Nat.zero_le _, by simpa using World.ownsRow_nil _ _ _ _, Below.refl _ _⟩
  case round =>
    obtain ⟨k, rfl, hk, ho, hB⟩ := hrel
    have e2 := (hB.cell (p := ⟨W.heap.size, 2, none⟩) (by simp [hsz1])).trans b2
    have e3 := (hB.cell (p := ⟨W.heap.size, 3, none⟩) (by simp [hsz1])).trans b3
    by_cases hkn : k < n
    · have hk' : k < es.length := by have := HN.out; omega
      obtain ⟨e, hge⟩ : ∃ e, es[k]? = some e := ⟨_, List.getElem?_eq_getElem hk'⟩
      obtain ⟨g, o, hvo, c0, c1, c2⟩ := HE.out k e hge
      subst hvo
      have hgl : g < W1.heap.size := World.block_lt_of_cell? W1 ⟨g, o + k * 3, none⟩ c0
      have d0 := (hB.cell hgl).trans c0
      have d1 := (hB.cell (p := ⟨g, o + k * 3 + 1, none⟩) hgl).trans c1
      have d2 := (hB.cell (p := ⟨g, o + k * 3 + 2, none⟩) hgl).trans c2
      have HG := Lib.hid hge
      have hvb := ho.lt
      obtain ⟨lo, lc, rfl⟩ := own_shape ho
      have ag : (Value.slice lo k lc).ownBlock ≠ some g := fun e => by have := (hvb g e).1; omega
      have ab : (Value.slice lo k lc).ownBlock ≠ some W.heap.size := fun e => by have := (hvb _ e).1; omega
      have tb : W.heap.size < wr.heap.size := by have := hB.size; omega
      have tg : g < wr.heap.size := by have := hB.size; omega
      have hk0 : (0 : Int) ≤ (k : Int) := Int.natCast_nonneg _
      have hk1 : (k : Int) < (n : Int) := by omega
      clear c0 c1 c2 hk hk' hge b2 b3 hBW
      obtain ⟨ea, ec, nw⟩ := e
      simp only at d0 d1 d2
      go_wp2_with fail
      go_region_held3 (fun w' => w'.cell? ⟨W.heap.size, 3, none⟩ = some (.slice (some ⟨g, o, none⟩) n c) ∧ w'.cell? ⟨g, o + k * 3, none⟩ = some (.int .i64 ea) ∧ w'.cell? ⟨g, o + k * 3 + 1, none⟩ = some (.int .i64 ec) ∧ w'.cell? ⟨g, o + k * 3 + 2, none⟩ = some (.string nw))
        (first
          | go_keep
          | (go_split_ands
             refine ⟨?_, ?_, ?_, ?_⟩
             · (rw [hgrow.cell_far _ (by simp; omega) (Ne.symm ab)]; assumption)
             · (rw [hgrow.cell_far _ (by simp; omega) (Ne.symm ag)]; assumption)
             · (rw [hgrow.cell_far _ (by simp; omega) (Ne.symm ag)]; assumption)
             · (rw [hgrow.cell_far _ (by simp; omega) (Ne.symm ag)]; assumption)))
        ((refine step_append_lies _ (by rfl) _ _ _ (by rfl) W1.heap.size 70 i0 _ 3 32 Tryz.underlying64 hi0 hz0 hz1 hz2 rfl (by omega) (.slice lo k lc) k ((es.take k).flatMap edc) (by rfl) ((ho.alloc _).drew)
            ⟨wr.heap.size, 0, none⟩ 1 1 (edc ⟨ea, ec, nw⟩) (by rfl) (by rfl) (World.news_of_block (cs := #[.int .i64 ea, .int .i64 ec, .string nw]) (t := 70) (fr := (0, 0)) (heap_alloc_new wr _)) (by simp [Value.oneCell', edc])
            (by omega) (by unfold maxLen; omega) (by omega) (by have := hB.size; simp; omega) (wr.heap.size + 1) (by simp) ?_; intro gg cap w1 hown1 hgrow hat hlt))
      go_wp2
      go_roundw
      case rel => exact ap_more (j := 1) rfl HG hB hown1 hgrow rfl (fun g e => (hvb g e).1)
      case measure => exact ra_less rfl hkn
    · have hke : k = n := by have := HN.out; omega
      subst hke
      have HO : Hid (wr.ownsRow W1.heap.size 70 3 u3 k (es.flatMap edc)) := by
        rw [HN.out, List.take_length, ← HN.out] at ho
        exact ho
      obtain ⟨lo, lc, rfl⟩ := own_shape ho
      clear ho hk hkn
      have HL := Lib.hid (own_eds HO.out HN.out)
      have HV := Lib.hid (HE.out.below hB rfl)
      go_wp2_with fail
      refine (HGA.out lo lc wr HL.out).mono ?_
      rintro e w2 ⟨t, rfl, ht, hB2⟩
      have tb : W.heap.size < wr.heap.size := by have := hB.size; omega
      have f2 := (hB2.cell (p := ⟨W.heap.size, 2, none⟩) tb).trans e2
      have f3 := (hB2.cell (p := ⟨W.heap.size, 3, none⟩) tb).trans e3
      go_wp2_with fail
      refine (HRA.out vo c w2 (HV.out.below hB2 rfl)).mono ?_
      rintro e w3 ⟨t2, rfl, ht2, hB3⟩
      obtain rfl : t = t2 := bytes_eq (ht.trans ht2.symm)
      have hB23 := hB2.trans (hB3.mono hB2.size)
      have h3 := (hB23.cell (p := ⟨W.heap.size, 3, none⟩) tb).trans e3
      have HL3 := Lib.hid (HL.out.below hB23 rfl)
      have HV3 := Lib.hid (HV.out.below hB23 rfl)
      have hBB : Hid (Below W.heap.size W w3) := (hBW.trans ((hB.mono (by omega)).trans (hB23.mono (by omega))))
      have tb3 : W.heap.size < w3.heap.size := by have := hB23.size; omega
      clear ht ht2 f2 f3 e2 e3 HO HL HV b2 b3 hBW hB hB2 hB3 hB23
      go_wp2
      go_loopw [7] (Ap2Rel k w3) (fun i _ => k - (intOf i).toNat)
      case atStart => exact ⟨0, rfl, Nat.zero_le _, Below.refl _ _⟩
      case round =>
        obtain ⟨q, rfl, hq, hB⟩ := hrel
        have h3' := (hB.cell (p := ⟨W.heap.size, 3, none⟩) tb3).trans h3
        by_cases hqn : q < k
        · have hq' : q < es.length := by have := HN.out; omega
          obtain ⟨e, hge⟩ : ∃ e, es[q]? = some e := ⟨_, List.getElem?_eq_getElem hq'⟩
          obtain ⟨g, o, hvo, c0, c1, c2⟩ := HV3.out q e hge
          obtain ⟨gl, ol, hlo, l0, l1, l2⟩ := HL3.out q e hge
          subst hvo
          subst hlo
          have kc := fun (p : Addr) (u : Value) (h : w3.cell? p = some u) => (hB.cell (World.block_lt_of_cell? w3 p h)).trans h
          have d0 := kc _ _ c0
          have d1 := kc _ _ c1
          have d2 := kc _ _ c2
          have m0 := kc _ _ l0
          have m1 := kc _ _ l1
          have m2 := kc _ _ l2
          clear kc c0 c1 c2 l0 l1 l2 hge hq'
          obtain ⟨ea, ec, nw⟩ := e
          simp only at d0 d1 d2 m0 m1 m2
          go_wp2
          go_quiet (fail)
          go_wp2
          go_roundw
          case rel => exact ap2_next rfl hB hqn
          case measure => exact ra_less rfl hqn
        · clear hq
          go_wp2
          go_ret
          exact ⟨rfl, hBB.out.trans (hB.mono (by omega))⟩
end Go.Proofs.YtcnpkijjnbhagaaGreatDoor
