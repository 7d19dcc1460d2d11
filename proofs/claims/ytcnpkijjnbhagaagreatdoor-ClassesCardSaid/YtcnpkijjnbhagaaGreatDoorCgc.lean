/- The program's Classes of a line, walked. -/
import Derived.Test.YtcnpkijjnbhagaaGreatDoorCguard
import Derived.Stop.IfaceNil
import Derived.Deep.LoopGhost
namespace Go.Proofs.YtcnpkijjnbhagaaGreatDoor
open Go.RowKit Go.Lib

def GcRel (s : ByteArray) (W : World) (k gk : Nat) (ov : Value) (wr : World) : Prop :=
  ∃ (pos : Nat) (L : List Nat), pos ≤ s.size ∧ s.size < pos + gk ∧ L.length ≤ pos ∧ wr.heap[k]? = some (.stringIter s pos) ∧ wr.ownsRow W.heap.size 3 1 ov L.length (L.map iv) ∧
    L ++ (runesOf (s.data.toList.drop pos)).map refC = (runesOf s.data.toList).map refC ∧ Below W.heap.size W wr
def GcPost (s : ByteArray) (a0 a1 : Addr) (W : World) (e : Ending) (w' : World) : Prop :=
  ∃ (vo : Option Addr) (c : Nat), e = .returned (.tuple #[.slice vo (okL s).length c, ev (faultF s) a0 a1]) ∧ w'.ownsRow W.heap.size 3 1 (.slice vo (okL s).length c) (okL s).length (((okL s).map refC).map iv) ∧ (faultF s ≠ 0 → vo = none ∧ c = 0) ∧ Below W.heap.size W w'
theorem own_iter {w : World} {B e size n : Nat} {v : Value} {xs : List Value} {k : Nat} {s : ByteArray} {pos : Nat} (h : w.ownsRow B e size v n xs) (hk : w.heap[k]? = some (.stringIter s pos)) (pos' : Nat) : (w.iterAt k s pos').ownsRow B e size v n xs := by
  refine ⟨h.1, ?_⟩
  rcases h.2 with h0 | ⟨g, cap, cur, hv, hb, hg, rest⟩
  · exact .inl h0
  · refine .inr ⟨g, cap, cur, hv, hb, ?_, rest⟩
    rw [Lib.iterAt_other _ _ _ _ _ (fun e => by subst e; rw [hk] at hg; cases hg)]
    exact hg
theorem own_noiter {w : World} {B e size n : Nat} {v : Value} {xs : List Value} {k : Nat} {s : ByteArray} {pos : Nat} (h : w.ownsRow B e size v n xs) (hk : w.heap[k]? = some (.stringIter s pos)) : some k ≠ v.ownBlock := by
  rcases h.2 with ⟨rfl, _⟩ | ⟨g, cap, cur, rfl, hb, hg, rest⟩
  · simp [Value.ownBlock]
  · intro e
    simp only [Value.ownBlock, Option.some.injEq] at e
    subst e
    rw [hk] at hg
    cases hg
theorem ev_ne {k : Nat} {a0 a1 : Addr} (h : k ≠ 0) : ∃ a, ev k a0 a1 = .iface 268 (.pointer (some a)) := by
  unfold ev
  rw [if_neg h]
  split
  · exact ⟨_, rfl⟩
  · exact ⟨_, rfl⟩
set_option maxHeartbeats 2000000 in
set_option maxRecDepth 100000 in
theorem gclasses_any (s : ByteArray) (a0 a1 : Addr) (tb tt cap : Nat) (W : World) (h0 : W.cell? ⟨0, 0, none⟩ = some (.iface 268 (.pointer (some a0)))) (h1 : W.cell? ⟨1, 0, none⟩ = some (.iface 268 (.pointer (some a1))))
    (hT : Lib.Utf8Tabs 6 7 W) (hTab : TabAt W tb tt cap) : Calls Tryz.prog 19 #[.string s] W (GcPost s a0 a1 W) := by
  have HG := Lib.hid (gruns_any s a0 a1 W h0 h1 hT)
  have HTab := Lib.hid hTab
  clear hT hTab h0 h1
  by_cases hF : faultF s = 0
  · obtain ⟨i0, hi, hz0, hz1, hz2⟩ := info_parts Tryz.infoInt
    have hOK : okL s = runesOf s.data.toList := by unfold okL; rw [if_pos hF]
    obtain ⟨hl6, _⟩ := okL_len s
    rw [hOK] at hl6
    have HOK := Lib.hid hOK
    have HF := Lib.hid hF
    have hs600 : s.size ≤ 600 := by
      rcases Nat.lt_or_ge 600 s.size with h' | h'
      · unfold faultF at hF; rw [if_pos h'] at hF; cases hF
      · exact h'
    clear hOK hF
    obtain ⟨n, hn⟩ : ∃ n, n = (runesOf s.data.toList).length := ⟨_, rfl⟩
    rw [← hn] at hl6
    have HN := Lib.hid hn
    clear hn
    go_enter Tryz.func19, Tryz.ntmps19
    go_wp2_with fail
    refine HG.out.mono ?_
    rintro e w1 ⟨v, rfl, hv0, _, hB⟩
    obtain ⟨g, c, rfl⟩ := hv0 HF.out
    rw [← HN.out, show ev (faultF s) a0 a1 = .nilIface by rw [HF.out]; rfl]
    clear hv0
    obtain ⟨w2, hmk, hown, hgr⟩ := run_make_own (P := Tryz.prog) w1 W.heap.size 29 3 i0 (.int .i64 0) 1 Tryz.underlying29 hi hz0 hz1 .i64 .i64 n (by rw [hz2]; omega) (by unfold maxLen; omega) hB.size
    have HMK := Lib.hid hmk
    have HB := Lib.hid hB
    clear hmk hB
    have HOwn := Lib.hid hown
    have hB2 := HB.out.grown hgr HB.out.size (fun g e => by cases e)
    have HB2 := Lib.hid hB2
    clear hown hgr hB2
    go_wp2
    rw [HMK.out]
    simp only [Result.andThen]
    rw [Oper.upon_value]
    clear HMK HB
    go_wp2
    go_loopg [6] (s.size + 1) (fun gk ov wx => GcRel s W w2.heap.size gk ov wx)
    case atStart =>
      refine ⟨0, [], Nat.zero_le _, by omega, Nat.le_refl _, ?_, ?_, rfl, ?_⟩
      · have := World.iter_heap w2 s 0
        simpa using this
      · exact HOwn.out.alloc _
      · exact HB2.out.alloc HB2.out.size _
    case round =>
      obtain ⟨pos, L, hps, hfu, hLp, hit, ho, hR, hB⟩ := hrel
      have hkw : w2.heap.size < wr.heap.size := (Array.getElem?_eq_some_iff.1 hit).1
      have hkb : W.heap.size ≤ w2.heap.size := HB2.out.size
      by_cases hlt : pos < s.size
      · obtain ⟨g', rfl⟩ : ∃ g', gk = g' + 1 := ⟨gk - 1, by omega⟩
        have hne : s.data.toList.drop pos ≠ [] := by
          intro h0
          have := congrArg List.length h0
          simp at this
          omega
        have hst := runes_step _ hne
        have hwd := decodeL_width (s.data.toList.drop pos)
        have hdl := decodeL_le _ hne
        have hrl := decodeL_rune (s.data.toList.drop pos)
        rw [decodeL_drop] at hst hwd hdl hrl
        have hnx := fun ty => Lib.run_next_any_at (P := Tryz.prog) wr w2.heap.size s pos ty hit hlt
        obtain ⟨R, hRR⟩ : ∃ R, (Utf8.decode s pos).1 = R := ⟨_, rfl⟩
        obtain ⟨K, hK⟩ : ∃ K, (Utf8.decode s pos).2 = K := ⟨_, rfl⟩
        rw [hRR, hK] at hnx hst
        rw [hK] at hwd hdl
        rw [hRR] at hrl
        rw [List.length_drop, show s.data.toList.length = s.size by simp] at hdl
        rw [List.drop_drop] at hst
        have hit5 := Lib.iterAt_heap wr w2.heap.size s pos (pos + K) hit
        have hB5 := Lib.below_iterAt hB hkb s (pos + K)
        have ho5 := own_iter ho hit (pos + K)
        have hs5 := Lib.iterAt_size wr w2.heap.size s (pos + K)
        obtain ⟨W5, hW5⟩ : ∃ W5, wr.iterAt w2.heap.size s (pos + K) = W5 := ⟨_, rfl⟩
        rw [hW5] at hnx hit5 hB5 ho5 hs5
        have HST : Hid (L ++ [refC R] ++ (runesOf (s.data.toList.drop (pos + K))).map refC = (runesOf s.data.toList).map refC) := by
          have := hR
          rw [hst] at this
          exact (show L ++ [refC R] ++ (runesOf (s.data.toList.drop (pos + K))).map refC = (runesOf s.data.toList).map refC by simpa using this)
        have hof := of_any R tb tt cap W5 (HTab.out.below hB5 (Nat.le_refl _))
        unfold OfPost at hof
        rw [tab_ref] at hof
        have HOF := Lib.hid hof
        clear hof
        obtain ⟨lo, lc, rfl⟩ := own_slice ho5
        have hvb := Lib.hid ho5.lt
        have HO5 := Lib.hid ho5
        have HI5 := Lib.hid hit5
        have HB5 := Lib.hid hB5
        have hsz5 : w2.heap.size < W5.heap.size := by omega
        clear hit hR hst hit5 hB5 ho ho5 hW5 hRR hK hB hs5
        obtain ⟨cc, hcc⟩ : ∃ cc, cc = refC R := ⟨_, rfl⟩
        have HCC := Lib.hid hcc
        clear hcc
        go_wp2_with fail
        refine HOF.out.mono ?_
        rintro e w6 ⟨rfl, hB6⟩
        rw [← HCC.out]
        have ho6 := Lib.hid (ownI_below HO5.out hB6 rfl)
        have hi6 := Lib.hid ((hB6.block w2.heap.size hsz5).trans HI5.out)
        go_wp2_with (at_builtin; refine wpList_append_own _ rfl _ _ 29 rfl W.heap.size 3 i0 (.int .i64 0) 1 8 Tryz.underlying29 hi hz0 hz1 hz2 rfl (by decide) _ _ _ rfl (ho6.out.alloc _) ⟨w6.heap.size, 0, none⟩ 1 1 [.int .i64 cc] rfl rfl ?c1 (by simp [Value.oneCell']) (by unfold maxLen; omega) (by omega) (by have := hB6.size; simp; omega) ?_; rotate_left; intro v' w7 ho' hg _)
        case c1 => exact int_cell _ _
        go_roundg g'
        case measure => omega
        case rel =>
          have hs6 := hB6.size
          have hBB := HB5.out.trans (hB6.mono (by omega))
          refine ⟨pos + K, L ++ [cc], by omega, by omega, by simp; omega, ?_, by simpa [iv] using ho', by rw [HCC.out]; exact HST.out, (hBB.alloc hBB.size _).grown hg (by have := hBB.size; simp; omega) (fun g e => (hvb.out g e).1)⟩
          exact (hg.block w2.heap.size (by simp; omega) (own_noiter ho6.out hi6.out)).trans ((Below.heap_alloc _ _ _ (by omega)).trans hi6.out)
      · obtain rfl : pos = s.size := by omega
        have hnx := fun ty => Lib.run_next_end_at (P := Tryz.prog) wr w2.heap.size s s.size ty hit hlt
        have hE : s.data.toList.drop s.size = [] := List.drop_eq_nil_of_le (by simp)
        have HQ : Hid (L = (runesOf s.data.toList).map refC) := by
          have := hR
          rw [hE, runes_nil, List.map_nil, List.append_nil] at this
          exact this
        clear hE hR
        obtain ⟨lo, lc, rfl⟩ := own_slice ho
        have HO := Lib.hid ho
        clear ho
        go_wp2
        go_ret2
        refine ⟨lo, lc, ?_, ?_, fun h => absurd HF.out h, hB⟩
        · rw [HOK.out, HF.out, show (runesOf s.data.toList).length = L.length by rw [HQ.out, List.length_map]]; rfl
        · rw [HOK.out, show (runesOf s.data.toList).length = L.length by rw [HQ.out, List.length_map], ← HQ.out]; exact HO.out
  · obtain ⟨a, ha⟩ := ev_ne (a0 := a0) (a1 := a1) hF
    have hOK : okL s = [] := by unfold okL; rw [if_neg hF]
    have HOK := Lib.hid hOK
    have HF := Lib.hid hF
    have HA := Lib.hid ha
    clear hOK hF ha
    have hif : Tryz.prog.isIface 42 = true := by kernel_rfl
    go_enter Tryz.func19, Tryz.ntmps19
    go_wp2_with fail
    refine HG.out.mono ?_
    rintro e w1 ⟨v, rfl, _, hv1, hB⟩
    obtain rfl := hv1 HF.out
    rw [HA.out]
    clear hv1
    go_wp2
    go_ret2
    refine ⟨none, 0, by rw [HOK.out, HA.out]; rfl, ?_, fun _ => ⟨rfl, rfl⟩, hB⟩
    rw [HOK.out]
    exact World.ownsRow_nil _ _ _ _
end Go.Proofs.YtcnpkijjnbhagaaGreatDoor
