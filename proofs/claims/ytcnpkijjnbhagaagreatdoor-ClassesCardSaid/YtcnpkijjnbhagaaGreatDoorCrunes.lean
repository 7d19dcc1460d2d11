/- The reference's Runes, walked. -/
import Derived.Test.YtcnpkijjnbhagaaGreatDoorCsize
import Derived.OwnWalk
namespace Go.Proofs.YtcnpkijjnbhagaaGreatDoor
open Go.RowKit Go.Lib

/-- The runes of a text, as the model's decoder reads them. -/
def rnsF : Nat → List UInt8 → List Nat
  | 0, _ => []
  | n + 1, l => if l = [] then [] else (decodeL l).1 :: rnsF n (l.drop (decodeL l).2)
def runesOf (l : List UInt8) : List Nat := rnsF l.length l
theorem rnsF_fuel : ∀ (n m : Nat) (l : List UInt8), l.length ≤ n → l.length ≤ m → rnsF n l = rnsF m l
  | 0, m, l, h, _ => by
    have : l = [] := List.length_eq_zero_iff.1 (by omega)
    subst this
    cases m <;> simp [rnsF]
  | n + 1, 0, l, _, h => by
    have : l = [] := List.length_eq_zero_iff.1 (by omega)
    subst this
    simp [rnsF]
  | n + 1, m + 1, l, h1, h2 => by
    unfold rnsF
    split
    · rfl
    · rename_i hne
      have hw := decodeL_width l
      congr 1
      exact rnsF_fuel n m _ (by simp; omega) (by simp; omega)
theorem runes_nil : runesOf [] = [] := rfl
theorem runes_step (l : List UInt8) (hne : l ≠ []) : runesOf l = (decodeL l).1 :: runesOf (l.drop (decodeL l).2) := by
  have hw := decodeL_width l
  have hl : 0 < l.length := List.length_pos_iff.2 hne
  unfold runesOf
  rw [show l.length = (l.length - 1) + 1 by omega]
  conv => lhs; unfold rnsF
  rw [if_neg hne]
  congr 1
  exact rnsF_fuel _ _ _ (by simp; omega) (Nat.le_refl _)
theorem runes_len : ∀ (n : Nat) (l : List UInt8), l.length ≤ n → (runesOf l).length ≤ l.length
  | 0, l, h => by
    have : l = [] := List.length_eq_zero_iff.1 (by omega)
    subst this
    simp [runes_nil]
  | n + 1, l, h => by
    by_cases hne : l = []
    · subst hne; simp [runes_nil]
    · have hw := decodeL_width l
      have hd := decodeL_le l hne
      rw [runes_step l hne]
      have := runes_len n (l.drop (decodeL l).2) (by simp; omega)
      simp at this ⊢
      omega
theorem runes_le : ∀ (n : Nat) (l : List UInt8), l.length ≤ n → ∀ r ∈ runesOf l, r ≤ 1114111
  | 0, l, h => by
    have : l = [] := List.length_eq_zero_iff.1 (by omega)
    subst this
    simp [runes_nil]
  | n + 1, l, h => by
    by_cases hne : l = []
    · subst hne; simp [runes_nil]
    · have hw := decodeL_width l
      have hl : 0 < l.length := List.length_pos_iff.2 hne
      rw [runes_step l hne]
      intro r hr
      rcases List.mem_cons.1 hr with rfl | hr
      · exact decodeL_rune l
      · exact runes_le n _ (by simp; omega) r hr
/-- A number's cell. -/
def iv (n : Nat) : Value := .int .i64 n
theorem Tryz.infoInt : (Tryz.prog.info? 3).map (fun i => (i.zero, i.size, i.bytes)) = some (some (.int .i64 0), 1, 8) := by kernel_rfl
def RnRel (s : ByteArray) (W : World) (lv pv : Value) (wr : World) : Prop :=
  ∃ (k : Nat) (L : List Nat), pv = .int .i64 k ∧ k ≤ s.size ∧ L.length ≤ k ∧ wr.ownsRow W.heap.size 3 1 lv L.length (L.map iv) ∧ L ++ runesOf (s.data.toList.drop k) = runesOf s.data.toList ∧ validD (s.data.toList.drop k) = validD s.data.toList ∧ Below W.heap.size W wr
def RnPost (s : ByteArray) (w : World) (e : Ending) (w' : World) : Prop :=
  (validD s.data.toList = true ∧ ∃ v, e = .returned (.tuple #[v, .int .i64 (-1)]) ∧ w'.ownsRow w.heap.size 3 1 v (runesOf s.data.toList).length ((runesOf s.data.toList).map iv) ∧ Below w.heap.size w w') ∨
  (validD s.data.toList = false ∧ ∃ p : Nat, e = .returned (.tuple #[.slice none 0 0, .int .i64 p]) ∧ Below w.heap.size w w')
theorem own_slice {W : World} {base : Nat} {e : TypeId} {size : Nat} {v : Value} {k : Nat} {xs : List Value} (h : W.ownsRow base e size v k xs) : ∃ o c, v = .slice o k c := by
  rcases h.2 with ⟨rfl, rfl⟩ | ⟨g, cap, cur, rfl, _⟩
  · exact ⟨_, _, rfl⟩
  · exact ⟨_, _, rfl⟩
theorem rn_more {s : ByteArray} {W wr w2 : World} {v v' : Value} {k n : Nat} {L : List Nat} {x : Int} {o : Obj} (hk : k < s.size) (hL : L.length ≤ k) (hsz : szF (s.data.toList.drop k) = n) (hn : 1 ≤ n) (hx : x = (k : Int) + n)
    (hR : L ++ runesOf (s.data.toList.drop k) = runesOf s.data.toList) (hV : validD (s.data.toList.drop k) = validD s.data.toList) (hB : Below W.heap.size W wr) (hv : ∀ g, v.ownBlock = some g → W.heap.size ≤ g) {y : Int} (hy : y = (rnF (s.data.toList.drop k) : Int))
    (ho : w2.ownsRow W.heap.size 3 1 v' (L.length + 1) (L.map iv ++ [.int .i64 y])) (hg : (wr.alloc o).grownBy w2 v.ownBlock) :
    RnRel s W v' (.int .i64 x) w2 ∧ s.size - (intOf (.int .i64 x)).toNat < s.size - (intOf (.int .i64 (k : Int))).toNat := by
  subst hx; subst hy
  have hne : s.data.toList.drop k ≠ [] := by
    intro h
    have := congrArg List.length h
    simp at this
    omega
  rcases sz_dec _ hne with ⟨h0, _⟩ | ⟨_, _, h3, h4, h5⟩
  · omega
  · have hle := decodeL_le _ hne
    have hbl : (s.data.toList.drop k).length = s.size - k := by simp
    rw [hsz] at h3
    rw [hbl, h3] at hle
    refine ⟨⟨k + n, L ++ [rnF (s.data.toList.drop k)], rfl, by omega, by simp; omega, by simpa [iv] using ho, ?_, ?_, (hB.alloc hB.size o).grown hg (by have := hB.size; simp; omega) hv⟩, by simp [intOf]; omega⟩
    · rw [← hR, runes_step _ hne, h4, h3, List.drop_drop]
      simp
    · rw [← hV, validD_step _ hne, if_neg h5, h3, List.drop_drop]
/-- The loop over the bytes behind the lead byte. -/
def RiRel (l : List UInt8) (n m : Nat) (W : World) (r i : Value) (wr : World) : Prop := ∃ k : Nat, i = .int .i64 k ∧ r = .int .i64 (if n = 1 then byF l 0 else valF l m k) ∧ 1 ≤ k ∧ k ≤ n ∧ W = wr
theorem ri_next {l : List UInt8} {n m k : Nat} {W : World} {x y : Int} (hx : x = (k : Int) + 1) (hk : k < n) (hk1 : 1 ≤ k) (h1 : 128 ≤ byF l k) (hy : y = 64 * (valF l m k : Int) + (byF l k : Int) - 128) :
    RiRel l n m W (.int .i64 y) (.int .i64 x) W := by
  subst hx
  rw [hy, ← val_step l _ k hk1 h1]
  exact ⟨k + 1, rfl, by rw [if_neg (by omega)], by omega, hk, rfl⟩
theorem by_drop (s : ByteArray) (k j : Nat) (h : k + j < s.size) : byF (s.data.toList.drop k) j = (s[k + j]).toNat := by
  have : byF (s.data.toList.drop k) j = byF s.data.toList (k + j) := by
    unfold byF
    rw [List.getD_eq_getElem?_getD, List.getD_eq_getElem?_getD, List.getElem?_drop]
  rw [this, by_get s (k + j) h]
theorem sz_cont {l : List UInt8} {n : Nat} (h : szF l = n) (hn : 2 ≤ n) : contF l n ∧ n ≤ l.length := by
  unfold szF szG at h
  repeat' split at h
  all_goals first | (exfalso; omega) | (subst h; exact ⟨by assumption, by omega⟩)
theorem bytes_ext (s : ByteArray) (k : Nat) : (s.extract k s.size).data.toList = s.data.toList.drop k := by
  simp [List.extract, List.take_of_length_le]
theorem int_cell (W : World) (x : Int) : ∀ (j : Nat) (u : Value), [Value.int .i64 x][j]? = some u → (W.alloc (.cells #[.int .i64 x] 3)).cell? (Addr.add ⟨W.heap.size, 0, none⟩ j) = some u := by
  intro j u hu
  rw [show Addr.add ⟨W.heap.size, 0, none⟩ j = ⟨W.heap.size, j, none⟩ from by unfold Addr.add; split <;> simp_all]
  rw [cell_of_row _ _ _ _ _ _ (heap_alloc_new W _)]
  simpa using hu
set_option maxHeartbeats 4000000 in
set_option maxRecDepth 100000 in
theorem runes_any (s : ByteArray) (W : World) (hs : s.size ≤ 600) : Calls Tryz.prog 41 #[.string s] W (RnPost s W) := by
  obtain ⟨i0, hi, hz0, hz1, hz2⟩ := info_parts Tryz.infoInt
  go_enter Tryz.func41, Tryz.ntmps41
  go_wp2
  go_loopw [4, 5] (RnRel s W) (fun _ p _ => s.size - (intOf p).toNat)
  case atStart => exact ⟨0, [], rfl, Nat.zero_le _, Nat.le_refl _, World.ownsRow_nil _ _ _ _, rfl, rfl, Below.refl _ _⟩
  case round =>
    obtain ⟨k, L, rfl, hk, hL, ho, hR, hV, hB⟩ := hrel
    have HR := Lib.hid hR
    have HV := Lib.hid hV
    obtain ⟨vo, vc, rfl⟩ := own_slice ho
    have hvb := Lib.hid ho.lt
    have HO := Lib.hid ho
    clear hR hV ho
    by_cases hlt : k < s.size
    · obtain ⟨l, hl⟩ : ∃ l, l = s.data.toList.drop k := ⟨_, rfl⟩
      have hne : l ≠ [] := by
        intro h
        rw [h] at hl
        have := congrArg List.length hl
        simp at this
        omega
      have HSZ : Hid (Calls Tryz.prog 71 #[.string (s.extract k s.size)] wr (SzPost l wr)) := by
        have := size_any (s.extract k s.size) wr (by simp; omega) (by simp; omega)
        rw [bytes_ext] at this
        rw [hl]; exact this
      have HBY : Hid (∀ j (h : k + j < s.size), ((s[k + j]).toNat : Int) = (byF l j : Int)) := fun j h => by rw [hl, by_drop s k j h]
      have HL := Lib.hid hl
      have HLL := Lib.hid (show l.length = s.size - k by rw [hl]; simp)
      clear hl
      rcases sz_dec l hne with ⟨h0, h1, h2⟩ | ⟨h1, h2, _, _, _⟩
      · have HF : Hid (validD s.data.toList = false) := by
          rw [← HV.out, ← HL.out, validD_step l hne, if_pos ⟨h1, h2⟩]; exact rfl
        have HZ := Lib.hid h0
        clear h0 h1 h2
        go_wp2_with (go_at_call 71; refine HSZ.out.mono ?_; rintro e w' ⟨rfl, rfl⟩; rw [HZ.out])
        go_ret2
        exact .inr ⟨HF.out, k, rfl, hB⟩
      obtain ⟨n, hn⟩ : ∃ n, szF l = n := ⟨_, rfl⟩
      rw [hn] at h1 h2
      have HZ := Lib.hid hn
      clear hn
      rcases (by omega : n = 1 ∨ n = 2 ∨ n = 3 ∨ n = 4) with rfl | rfl | rfl | rfl
      · have h0 := HBY.out 0 (by omega)
        simp only [Nat.add_zero] at h0
        have hb0 := byF_lt l 0
        have HRN : Hid (rnF l = byF l 0) := by unfold rnF; rw [HZ.out]; exact rfl
        go_wp2_with (go_at_call 71; refine HSZ.out.mono ?_; rintro e w' ⟨rfl, rfl⟩; rw [HZ.out])
        go_loopw [7, 8] (RiRel l 1 1 wr) (fun _ i _ => 1 - (intOf i).toNat)
        case atStart => exact ⟨1, rfl, by rw [if_pos rfl], by omega, by omega, rfl⟩
        case round =>
          obtain ⟨j, rfl, rfl, hj1, hj, rfl⟩ := hrel
          obtain rfl : j = 1 := by omega
          rw [if_pos rfl]
          go_wp2_with (at_builtin; refine wpList_append_own _ rfl _ _ 29 rfl W.heap.size 3 i0 (.int .i64 0) 1 8 Tryz.underlying29 hi hz0 hz1 hz2 rfl (by decide) _ _ _ rfl (HO.out.alloc _) ⟨wr.heap.size, 0, none⟩ 1 1 [.int .i64 (byF l 0 : Nat)] rfl rfl ?c1 (by simp [Value.oneCell']) (by unfold maxLen; omega) (by omega) (by have := hB.size; simp; omega) ?_; rotate_left; intro v' w2 ho' hg _)
          case c1 => exact int_cell _ _
          go_roundw
          case rel => exact (rn_more hlt hL (by rw [← HL.out]; exact HZ.out) (by omega) rfl HR.out HV.out hB (fun g e => (hvb.out g e).1) (by rw [← HL.out, HRN.out]) ho' hg).1
          case measure => exact (rn_more hlt hL (by rw [← HL.out]; exact HZ.out) (by omega) rfl HR.out HV.out hB (fun g e => (hvb.out g e).1) (by rw [← HL.out, HRN.out]) ho' hg).2
      · have h0 := HBY.out 0 (by omega)
        simp only [Nat.add_zero] at h0
        have hb0 := byF_lt l 0
        obtain ⟨hct, hln⟩ := sz_cont HZ.out (by omega)
        have HRN : Hid (rnF l = valF l 32 2) := by unfold rnF; rw [HZ.out]; exact rfl
        have hm := and_mask (byF l 0) (32 - 1) hb0 (by omega)
        simp only [Nat.reduceSub, Nat.reduceAdd] at hm
        norm_cast at hm
        have HC := Lib.hid hct
        have hks : k + 2 ≤ s.size := by have := HLL.out; omega
        clear hct hln
        go_wp2_with (go_at_call 71; refine HSZ.out.mono ?_; rintro e w' ⟨rfl, rfl⟩; rw [HZ.out])
        go_loopw [7, 8] (RiRel l 2 32 wr) (fun _ i _ => 2 - (intOf i).toNat)
        case atStart => exact ⟨1, rfl, by rw [if_neg (by decide)]; simp [valF], by omega, by omega, rfl⟩
        case round =>
          obtain ⟨j, rfl, rfl, hj1, hj, rfl⟩ := hrel
          rw [if_neg (by decide)]
          have hv : valF l 32 j ≤ 20000000 := val_lt l 32 (by omega) (by omega) j (by omega)
          by_cases hjn : j < 2
          · have hbj := HBY.out j (by omega)
            have hbl := byF_lt l j
            have hc1 := (HC.out j hjn hj1).1
            go_wp2
            go_roundw
            case rel => exact ri_next rfl hjn hj1 hc1 (by omega)
            case measure => exact sz_less rfl hjn
          · obtain rfl : j = 2 := by omega
            clear hjn hj hj1
            go_wp2_with (at_builtin; refine wpList_append_own _ rfl _ _ 29 rfl W.heap.size 3 i0 (.int .i64 0) 1 8 Tryz.underlying29 hi hz0 hz1 hz2 rfl (by decide) _ _ _ rfl (HO.out.alloc _) ⟨wr.heap.size, 0, none⟩ 1 1 [.int .i64 (valF l 32 2 : Nat)] rfl rfl ?c1 (by simp [Value.oneCell']) (by unfold maxLen; omega) (by omega) (by have := hB.size; simp; omega) ?_; rotate_left; intro v' w2 ho' hg _)
            case c1 => exact int_cell _ _
            go_roundw
            case rel => exact (rn_more hlt hL (by rw [← HL.out]; exact HZ.out) (by omega) rfl HR.out HV.out hB (fun g e => (hvb.out g e).1) (by rw [← HL.out, HRN.out]) ho' hg).1
            case measure => exact (rn_more hlt hL (by rw [← HL.out]; exact HZ.out) (by omega) rfl HR.out HV.out hB (fun g e => (hvb.out g e).1) (by rw [← HL.out, HRN.out]) ho' hg).2
      · have h0 := HBY.out 0 (by omega)
        simp only [Nat.add_zero] at h0
        have hb0 := byF_lt l 0
        obtain ⟨hct, hln⟩ := sz_cont HZ.out (by omega)
        have HRN : Hid (rnF l = valF l 16 3) := by unfold rnF; rw [HZ.out]; exact rfl
        have hm := and_mask (byF l 0) (16 - 1) hb0 (by omega)
        simp only [Nat.reduceSub, Nat.reduceAdd] at hm
        norm_cast at hm
        have HC := Lib.hid hct
        have hks : k + 3 ≤ s.size := by have := HLL.out; omega
        clear hct hln
        go_wp2_with (go_at_call 71; refine HSZ.out.mono ?_; rintro e w' ⟨rfl, rfl⟩; rw [HZ.out])
        go_loopw [7, 8] (RiRel l 3 16 wr) (fun _ i _ => 3 - (intOf i).toNat)
        case atStart => exact ⟨1, rfl, by rw [if_neg (by decide)]; simp [valF], by omega, by omega, rfl⟩
        case round =>
          obtain ⟨j, rfl, rfl, hj1, hj, rfl⟩ := hrel
          rw [if_neg (by decide)]
          have hv : valF l 16 j ≤ 20000000 := val_lt l 16 (by omega) (by omega) j (by omega)
          by_cases hjn : j < 3
          · have hbj := HBY.out j (by omega)
            have hbl := byF_lt l j
            have hc1 := (HC.out j hjn hj1).1
            go_wp2
            go_roundw
            case rel => exact ri_next rfl hjn hj1 hc1 (by omega)
            case measure => exact sz_less rfl hjn
          · obtain rfl : j = 3 := by omega
            clear hjn hj hj1
            go_wp2_with (at_builtin; refine wpList_append_own _ rfl _ _ 29 rfl W.heap.size 3 i0 (.int .i64 0) 1 8 Tryz.underlying29 hi hz0 hz1 hz2 rfl (by decide) _ _ _ rfl (HO.out.alloc _) ⟨wr.heap.size, 0, none⟩ 1 1 [.int .i64 (valF l 16 3 : Nat)] rfl rfl ?c1 (by simp [Value.oneCell']) (by unfold maxLen; omega) (by omega) (by have := hB.size; simp; omega) ?_; rotate_left; intro v' w2 ho' hg _)
            case c1 => exact int_cell _ _
            go_roundw
            case rel => exact (rn_more hlt hL (by rw [← HL.out]; exact HZ.out) (by omega) rfl HR.out HV.out hB (fun g e => (hvb.out g e).1) (by rw [← HL.out, HRN.out]) ho' hg).1
            case measure => exact (rn_more hlt hL (by rw [← HL.out]; exact HZ.out) (by omega) rfl HR.out HV.out hB (fun g e => (hvb.out g e).1) (by rw [← HL.out, HRN.out]) ho' hg).2
      · have h0 := HBY.out 0 (by omega)
        simp only [Nat.add_zero] at h0
        have hb0 := byF_lt l 0
        obtain ⟨hct, hln⟩ := sz_cont HZ.out (by omega)
        have HRN : Hid (rnF l = valF l 8 4) := by unfold rnF; rw [HZ.out]; exact rfl
        have hm := and_mask (byF l 0) (8 - 1) hb0 (by omega)
        simp only [Nat.reduceSub, Nat.reduceAdd] at hm
        norm_cast at hm
        have HC := Lib.hid hct
        have hks : k + 4 ≤ s.size := by have := HLL.out; omega
        clear hct hln
        go_wp2_with (go_at_call 71; refine HSZ.out.mono ?_; rintro e w' ⟨rfl, rfl⟩; rw [HZ.out])
        go_loopw [7, 8] (RiRel l 4 8 wr) (fun _ i _ => 4 - (intOf i).toNat)
        case atStart => exact ⟨1, rfl, by rw [if_neg (by decide)]; simp [valF], by omega, by omega, rfl⟩
        case round =>
          obtain ⟨j, rfl, rfl, hj1, hj, rfl⟩ := hrel
          rw [if_neg (by decide)]
          have hv : valF l 8 j ≤ 20000000 := val_lt l 8 (by omega) (by omega) j (by omega)
          by_cases hjn : j < 4
          · have hbj := HBY.out j (by omega)
            have hbl := byF_lt l j
            have hc1 := (HC.out j hjn hj1).1
            go_wp2
            go_roundw
            case rel => exact ri_next rfl hjn hj1 hc1 (by omega)
            case measure => exact sz_less rfl hjn
          · obtain rfl : j = 4 := by omega
            clear hjn hj hj1
            go_wp2_with (at_builtin; refine wpList_append_own _ rfl _ _ 29 rfl W.heap.size 3 i0 (.int .i64 0) 1 8 Tryz.underlying29 hi hz0 hz1 hz2 rfl (by decide) _ _ _ rfl (HO.out.alloc _) ⟨wr.heap.size, 0, none⟩ 1 1 [.int .i64 (valF l 8 4 : Nat)] rfl rfl ?c1 (by simp [Value.oneCell']) (by unfold maxLen; omega) (by omega) (by have := hB.size; simp; omega) ?_; rotate_left; intro v' w2 ho' hg _)
            case c1 => exact int_cell _ _
            go_roundw
            case rel => exact (rn_more hlt hL (by rw [← HL.out]; exact HZ.out) (by omega) rfl HR.out HV.out hB (fun g e => (hvb.out g e).1) (by rw [← HL.out, HRN.out]) ho' hg).1
            case measure => exact (rn_more hlt hL (by rw [← HL.out]; exact HZ.out) (by omega) rfl HR.out HV.out hB (fun g e => (hvb.out g e).1) (by rw [← HL.out, HRN.out]) ho' hg).2
    · obtain rfl : k = s.size := by omega
      have HE : Hid (s.data.toList.drop s.size = []) := List.drop_eq_nil_of_le (by simp)
      have HF : Hid (validD s.data.toList = true) := by rw [← HV.out, HE.out]; exact rfl
      have HQ : Hid (L = runesOf s.data.toList) := by rw [← HR.out, HE.out, runes_nil, List.append_nil]; exact rfl
      clear hlt hk
      go_wp2
      go_ret2
      refine .inl ⟨HF.out, _, rfl, ?_, hB⟩
      rw [← HQ.out]; exact HO.out
end Go.Proofs.YtcnpkijjnbhagaaGreatDoor
