/- The reference's Parts, walked. -/
import Derived.Test.YtcnpkijjnbhagaaGreatDoorTokens
import Derived.Test.YtcnpkijjnbhagaaGreatDoorRplain
namespace Go.Proofs.YtcnpkijjnbhagaaGreatDoor
open Go.RowKit

theorem Tryz.infoRp : (Tryz.prog.info? 56).map (fun i => (i.zero, i.size, i.bytes)) = some (some (.agg #[.int .i64 0, .int .i64 0, .int .i64 0, .int .i64 0, .int .i64 0, .int .i64 0]), 6, 48) := by kernel_rfl
/-- A part's cells, as the reference lays them. -/
def rpc (x : Pt) : List Value := [.int .i64 x.ln, .int .i64 x.kd, .int .i64 x.fr, .int .i64 x.to, .int .i64 x.bd, .int .i64 x.en]
/-- All parts. -/
def refF (s : ByteArray) : List Pt := if s.size ≤ 600 then tellsF s.data.toList (toksF s.data.toList 0 0) 0 0 else []
def RpPost (s : ByteArray) (w : World) (e : Ending) (w' : World) : Prop :=
  ∃ v, e = .returned v ∧ w'.ownsRow w.heap.size 56 6 v (refF s).length ((refF s).flatMap rpc) ∧ Below w.heap.size w w'
/-- What holds between two tokens. -/
def OuRel (s : ByteArray) (w : World) (TT : List Tk) (nt b0 : Nat) (vt v line begin i : Value) (wr : World) : Prop :=
  ∃ (j c ln bg n : Nat) (L : List Pt), i = .int .i64 j ∧ line = .int .i64 ln ∧ begin = .int .i64 bg ∧ j ≤ nt ∧ Chain s.size (TT.drop j) c ∧ bg ≤ c ∧ ln ≤ c ∧ n ≤ c ∧ n = L.length ∧
    wr.ownsRow w.heap.size 56 6 v n (L.flatMap rpc) ∧ wr.ownsRow b0 103 5 vt nt (TT.flatMap tkc) ∧
    L ++ tellsF s.data.toList (TT.drop j) ln bg = refF s ∧ Below w.heap.size w wr
/-- What is still to be told from place f of a token on, and behind it. -/
def restF (l : List UInt8) (T : Tk) (R : List Tk) (f ln bg : Nat) : List Pt :=
  (tellF l T.kd f T.to T.bd T.en ln bg).1 ++ tellsF l R (tellF l T.kd f T.to T.bd T.en ln bg).2.1 (tellF l T.kd f T.to T.bd T.en ln bg).2.2
/-- What holds between two bytes of a token. -/
def InRel (s : ByteArray) (w : World) (TT : List Tk) (nt b0 B : Nat) (T : Tk) (R : List Tk) (vt v line begin fr p : Value) (wr : World) : Prop :=
  ∃ (q f ln bg n : Nat) (L : List Pt), p = .int .i64 q ∧ fr = .int .i64 f ∧ line = .int .i64 ln ∧ begin = .int .i64 bg ∧ f ≤ q ∧ q ≤ T.to + 1 ∧ f ≤ T.to ∧ bg ≤ f ∧ ln ≤ f ∧ n = L.length ∧
    wr.ownsRow w.heap.size 56 6 v n (L.flatMap rpc) ∧ wr.ownsRow b0 103 5 vt nt (TT.flatMap tkc) ∧
    wr.heap[B]? = some (.cells (tkc T).toArray 103 (0, 0)) ∧ Below w.heap.size w wr ∧
    ((q ≤ T.to ∧ n ≤ f ∧ NoNl s.data.toList f q ∧ L ++ restF s.data.toList T R f ln bg = refF s) ∨ (q = T.to + 1 ∧ n ≤ T.to ∧ L ++ tellsF s.data.toList R ln bg = refF s))
theorem own_ne {W : World} {base : Nat} {e t : TypeId} {size : Nat} {v : Value} {k : Nat} {xs : List Value} {B : Nat} {cs : Array Value} (h : W.ownsRow base e size v k xs) (hB : W.heap[B]? = some (.cells cs t (0, 0))) (hne : e ≠ t) : v.ownBlock ≠ some B := by
  rcases h.2 with ⟨rfl, _⟩ | ⟨g, cap, cur, rfl, _, hh, _⟩
  · simp [Value.ownBlock]
  · intro he
    obtain rfl : g = B := by simpa [Value.ownBlock] using he
    rw [hh] at hB
    simp at hB
    exact hne hB.2
theorem own_ne2 {W : World} {base b2 : Nat} {e t : TypeId} {size s2 : Nat} {v u : Value} {k k2 : Nat} {xs ys : List Value} (h : W.ownsRow base e size v k xs) (h2 : W.ownsRow b2 t s2 u k2 ys) (hne : e ≠ t) : u.ownBlock = none ∨ u.ownBlock ≠ v.ownBlock := by
  rcases h2.2 with ⟨rfl, _⟩ | ⟨g, cap, cur, rfl, _, hh, _⟩
  · exact .inl (by simp [Value.ownBlock])
  · exact .inr fun he => own_ne h hh hne (by rw [← he]; simp [Value.ownBlock])

theorem in_nl {s : ByteArray} {w W : World} {TT R : List Tk} {nt b0 B n q f ln bg : Nat} {T : Tk} {vt v : Value} {L : List Pt} (hq : q < T.to) (hto : T.to ≤ s.size) (hf : f ≤ q) (hln : ln ≤ f) (hnf : n ≤ q + 1)
    (hn : n = (L ++ evF T.kd T.bd T.en f q ln bg).length) (ho : W.ownsRow w.heap.size 56 6 v n ((L ++ evF T.kd T.bd T.en f q ln bg).flatMap rpc)) (hot : W.ownsRow b0 103 5 vt nt (TT.flatMap tkc))
    (hbx : W.heap[B]? = some (.cells (tkc T).toArray 103 (0, 0))) (hB : Below w.heap.size w W) (hN : NoNl s.data.toList f q) (hc : ∃ h : q < s.size, s[q] = 10) (hR : L ++ restF s.data.toList T R f ln bg = refF s) :
    InRel s w TT nt b0 B T R vt v (.int .i64 ((ln : Int) + 1)) (.int .i64 ((q : Int) + 1)) (.int .i64 ((q : Int) + 1)) (.int .i64 ((q : Int) + 1)) W := by
  have hl : s.data.toList.length = s.size := by simp
  obtain ⟨h1, h2⟩ := hc
  refine ⟨q + 1, q + 1, ln + 1, q + 1, n, _, rfl, rfl, rfl, rfl, Nat.le_refl _, by omega, by omega, Nat.le_refl _, by omega, hn, ho, hot, hbx, hB, .inl ⟨by omega, hnf, noNl_refl _ _, ?_⟩⟩
  rw [← hR]
  unfold restF
  rw [tell_nl (kd := T.kd) (bd := T.bd) (en := T.en) (ln := ln) (bg := bg) hN hf hq (by omega) ⟨by omega, h2⟩]
  simp only [List.append_assoc]
theorem in_end {s : ByteArray} {w W : World} {TT R : List Tk} {nt b0 B n q f ln bg : Nat} {T : Tk} {vt v : Value} {L : List Pt} (hqT : q = T.to) (hto : T.to ≤ s.size) (hf : f ≤ q) (hbg : bg ≤ f) (hln : ln ≤ f) (hnf : n ≤ q)
    (hn : n = (L ++ evF T.kd T.bd T.en f q ln bg).length) (ho : W.ownsRow w.heap.size 56 6 v n ((L ++ evF T.kd T.bd T.en f q ln bg).flatMap rpc)) (hot : W.ownsRow b0 103 5 vt nt (TT.flatMap tkc))
    (hbx : W.heap[B]? = some (.cells (tkc T).toArray 103 (0, 0))) (hB : Below w.heap.size w W) (hN : NoNl s.data.toList f q) (hR : L ++ restF s.data.toList T R f ln bg = refF s) :
    InRel s w TT nt b0 B T R vt v (.int .i64 ln) (.int .i64 bg) (.int .i64 f) (.int .i64 ((q : Int) + 1)) W := by
  have hl : s.data.toList.length = s.size := by simp
  subst hqT
  refine ⟨T.to + 1, f, ln, bg, n, _, rfl, rfl, rfl, rfl, by omega, Nat.le_refl _, hf, hbg, hln, hn, ho, hot, hbx, hB, .inr ⟨rfl, hnf, ?_⟩⟩
  rw [← hR]
  unfold restF
  rw [tell_end (kd := T.kd) (bd := T.bd) (en := T.en) (ln := ln) (bg := bg) hN hf (by omega)]
  simp only [List.append_assoc]
theorem in_on {s : ByteArray} {w W : World} {TT R : List Tk} {nt b0 B n q f ln bg : Nat} {T : Tk} {vt v : Value} {L : List Pt} (hq : q < T.to) (hf : f ≤ q) (hbg : bg ≤ f) (hln : ln ≤ f) (hnf : n ≤ f)
    (hn : n = L.length) (ho : W.ownsRow w.heap.size 56 6 v n (L.flatMap rpc)) (hot : W.ownsRow b0 103 5 vt nt (TT.flatMap tkc))
    (hbx : W.heap[B]? = some (.cells (tkc T).toArray 103 (0, 0))) (hB : Below w.heap.size w W) (hN : NoNl s.data.toList f q) (hc : ∃ h : q < s.size, s[q] ≠ 10) (hR : L ++ restF s.data.toList T R f ln bg = refF s) :
    InRel s w TT nt b0 B T R vt v (.int .i64 ln) (.int .i64 bg) (.int .i64 f) (.int .i64 ((q : Int) + 1)) W := by
  have hl : s.data.toList.length = s.size := by simp
  obtain ⟨h1, h2⟩ := hc
  exact ⟨q + 1, f, ln, bg, n, _, rfl, rfl, rfl, rfl, by omega, by omega, by omega, hbg, hln, hn, ho, hot, hbx, hB, .inl ⟨by omega, hnf, noNl_step hN (by omega) h2, hR⟩⟩
/-- Behind an append: what was, is. -/
theorem rp_keep {wr w2 : World} {o o' X : Obj} {row : Option Nat} {B : Nat} (h : wr.heap[B]? = some X) (hg : ((wr.alloc o).alloc o').grownBy w2 row) (hne : row ≠ some B) : w2.heap[B]? = some X := by
  have hlt : B < wr.heap.size := (Array.getElem?_eq_some_iff.1 h).1
  rw [hg.block B (by simp only [World.size_alloc]; omega) (fun e => hne e.symm)]
  exact (Below.heap_alloc _ o' B (by simp only [World.size_alloc]; omega)).trans ((Below.heap_alloc _ o B hlt).trans h)
/-- The part that is laid, kind above 0. -/
theorem rp_list {kd bd en f q ln bg : Nat} (h : f < q) (hbg : bg ≤ f) (hk : 0 < kd) :
    [Value.int .i64 ln, .int .i64 kd, .int .i64 ((f : Int) - bg), .int .i64 ((q : Int) - bg), .int .i64 (((min (max bd f) q : Nat) : Int) - bg), .int .i64 (((min (max en f) q : Nat) : Int) - bg)] = (evF kd bd en f q ln bg).flatMap rpc := by
  rw [evF_some h, if_pos hk, if_pos hk]
  have e1 : ((f - bg : Nat) : Int) = (f : Int) - bg := by omega
  have e2 : ((q - bg : Nat) : Int) = (q : Int) - bg := by omega
  have e3 : ((min (max bd f) q - bg : Nat) : Int) = ((min (max bd f) q : Nat) : Int) - bg := by omega
  have e4 : ((min (max en f) q - bg : Nat) : Int) = ((min (max en f) q : Nat) : Int) - bg := by omega
  simp only [List.flatMap_cons, List.flatMap_nil, List.append_nil, rpc, e1, e2, e3, e4]
theorem rp_list0 {kd bd en f q ln bg : Nat} (h : f < q) (hbg : bg ≤ f) (hk : kd = 0) :
    [Value.int .i64 ln, .int .i64 0, .int .i64 ((f : Int) - bg), .int .i64 ((q : Int) - bg), .int .i64 0, .int .i64 0] = (evF kd bd en f q ln bg).flatMap rpc := by
  subst hk
  rw [evF_some h, if_neg (by decide), if_neg (by decide)]
  have e1 : ((f - bg : Nat) : Int) = (f : Int) - bg := by omega
  have e2 : ((q - bg : Nat) : Int) = (q : Int) - bg := by omega
  simp only [List.flatMap_cons, List.flatMap_nil, List.append_nil, rpc, e1, e2]
  rfl
theorem evF_len1 {kd bd en f q ln bg : Nat} (h : f < q) (L : List Pt) (n : Nat) (hn : n = L.length) : n + 1 = (L ++ evF kd bd en f q ln bg).length := by
  rw [evF_some h, hn]; simp
theorem rp_cells (W : World) (o1 : Obj) (g : Nat) (hg : g = W.heap.size + 1) (cs : List Value) : ∀ (j : Nat) (u : Value), cs[j]? = some u → ((W.alloc o1).alloc (.cells cs.toArray 56 (0, 0))).cell? (Addr.add ⟨g, 0, none⟩ j) = some u := by
  intro j u hu
  subst hg
  have hs : (W.alloc o1).heap.size = W.heap.size + 1 := World.size_alloc ..
  rw [← hs, show Addr.add ⟨(W.alloc o1).heap.size, 0, none⟩ j = ⟨(W.alloc o1).heap.size, j, none⟩ from by unfold Addr.add; split <;> simp_all]
  rw [cell_of_row _ _ _ _ _ _ (heap_alloc_new (W.alloc o1) _)]
  simpa using hu
theorem flat_cell (TT : List Tk) : ∀ (j : Nat) (x : Tk), TT[j]? = some x → ∀ i u, i < 5 → (tkc x)[i]? = some u → (TT.flatMap tkc)[j * 5 + i]? = some u := by
  induction TT with
  | nil => intro j x h; simp at h
  | cons y r ih =>
    intro j x h i u hi hu
    rcases j with _ | j
    · simp at h
      subst h
      simp only [List.flatMap_cons, Nat.zero_mul, Nat.zero_add]
      rw [List.getElem?_append_left (by simpa [tkc] using hi)]
      exact hu
    · simp only [List.flatMap_cons]
      rw [List.getElem?_append_right (by simp [tkc]; omega)]
      have := ih j x (by simpa using h) i u hi hu
      rw [← this]
      congr 1
      simp [tkc]
      omega
set_option maxHeartbeats 2000000 in
set_option maxRecDepth 100000 in
theorem rparts_any (s : ByteArray) (w : World) (h6 : s.size ≤ 600) : Calls Tryz.prog 28 #[.string s] w (RpPost s w) := by
  obtain ⟨i0, hi, hz0, hz1, hz2⟩ := info_parts Tryz.infoRp
  have hTok : Hid (∃ TT : List Tk, TT.length ≤ 600 ∧ refF s = tellsF s.data.toList TT 0 0 ∧ Chain s.size TT 0 ∧ Calls Tryz.prog 51 #[.string s] w fun e w' => ∃ vto vtc, e = .returned (.slice vto TT.length vtc) ∧ w'.ownsRow w.heap.size 103 5 (.slice vto TT.length vtc) TT.length (TT.flatMap tkc) ∧ Below w.heap.size w w') := by
    have hall := toksF_all s.data.toList _ 0 0 (Nat.le_refl _) (Nat.le_refl _) (Nat.zero_le _)
    have hsz : s.data.toList.length = s.size := by simp
    have hch := toksF_chain s.data.toList _ 0 0 (Nat.le_refl _) (Nat.le_refl _) (Nat.zero_le _)
    rw [hsz] at hch
    refine ⟨toksF s.data.toList 0 0, by omega, by unfold refF; rw [if_pos h6], hch, (tokens_any s w h6).mono fun e w' ⟨v, he, ho, hb⟩ => ?_⟩
    obtain ⟨vo, vc, rfl⟩ := tok_shape ho
    exact ⟨vo, vc, he, ho, hb⟩
  obtain ⟨TT, hnt, hREF, hch, hcall⟩ := hTok.out
  have HREF := Lib.hid hREF
  have HCH := Lib.hid hch
  have HCALL : Hid (Calls Tryz.prog 51 #[.string s] w fun e w' => ∃ vto vtc, e = .returned (.slice vto TT.length vtc) ∧ w'.ownsRow w.heap.size 103 5 (.slice vto TT.length vtc) TT.length (TT.flatMap tkc) ∧ Below w.heap.size w w') := hcall
  clear hTok hREF hch hcall
  obtain ⟨nt, hn⟩ : ∃ nt, nt = TT.length := ⟨_, rfl⟩
  rw [← hn] at hnt HCALL
  have HN := Lib.hid hn
  have e6 : decide (600 < (s.size : Int)) = false := decide_eq_false (by omega)
  clear hn
  go_enter Tryz.func28, Tryz.ntmps28
  go_wp2_with (go_at_call 51; refine HCALL.out.mono ?_; rintro e w1 ⟨vto, vtc, rfl, hot, hBt⟩)
  go_loopw [3, 5, 6, 7] (OuRel s w TT nt w.heap.size (.slice vto nt vtc)) (fun _ _ _ i _ => nt - (intOf i).toNat)
  case atStart => exact ⟨0, 0, 0, 0, 0, [], rfl, rfl, rfl, Nat.zero_le _, HCH.out, Nat.le_refl _, Nat.le_refl _, Nat.le_refl _, rfl, World.ownsRow_nil _ _ _ _, hot, by rw [HREF.out]; rfl, hBt⟩
  case round =>
    clear hot hBt
    obtain ⟨j, c, ln, bg, n, L, rfl, rfl, rfl, hj, hC, hbg, hln, hnc, hnL, ho, hot, hT, hB⟩ := hrel
    have HNL := Lib.hid hnL
    have HT := Lib.hid hT
    have HC := Lib.hid hC
    have hvb := Lib.hid ho.lt
    have hc6 := chain_le hC
    clear hnL hT hC
    by_cases hjn : j < nt
    · have hjT : j < TT.length := by rw [← HN.out]; exact hjn
      obtain ⟨kd, fr, to, bd, en, hx⟩ : ∃ kd fr to bd en, TT[j]? = some ⟨kd, fr, to, bd, en⟩ := ⟨_, _, _, _, _, List.getElem?_eq_getElem hjT⟩
      have hdrop : Hid (TT.drop j = ⟨kd, fr, to, bd, en⟩ :: TT.drop (j + 1)) := by
        rw [List.drop_eq_getElem_cons hjT]
        rw [List.getElem?_eq_getElem hjT] at hx
        rw [Option.some.inj hx]
        exact rfl
      obtain ⟨hfc, hct, hto, hC2⟩ : fr = c ∧ c < to ∧ to ≤ s.size ∧ Chain s.size (TT.drop (j + 1)) to := by have := HC.out; rw [hdrop.out] at this; exact this
      subst hfc
      obtain ⟨g, rfl⟩ : ∃ g, vto = some ⟨g, 0, none⟩ := by
        obtain ⟨m, rfl⟩ : ∃ m, nt = m + 1 := ⟨nt - 1, by omega⟩
        exact own_form hot
      have k0 := (hot.cellAt (j * 5) (by omega)).trans (flat_cell TT j _ hx 0 _ (by omega) rfl)
      have k1 := (hot.cellAt (j * 5 + 1) (by omega)).trans (flat_cell TT j _ hx 1 _ (by omega) rfl)
      have k2 := (hot.cellAt (j * 5 + 2) (by omega)).trans (flat_cell TT j _ hx 2 _ (by omega) rfl)
      have k3 := (hot.cellAt (j * 5 + 3) (by omega)).trans (flat_cell TT j _ hx 3 _ (by omega) rfl)
      have k4 := (hot.cellAt (j * 5 + 4) (by omega)).trans (flat_cell TT j _ hx 4 _ (by omega) rfl)
      have HO := Lib.hid ho
      have HOT := Lib.hid hot
      have HC2 := Lib.hid hC2
      clear hx ho hot hC2
      obtain ⟨W0, rfl⟩ : ∃ W0 : World, W0 = wr := ⟨_, rfl⟩
      have hHT : Hid (L ++ restF s.data.toList ⟨kd, fr, to, bd, en⟩ (TT.drop (j + 1)) fr ln bg = refF s) := by have := HT.out; rw [hdrop.out] at this; exact this
      go_wp2
      clear k0 k1 k2 k3 k4
      go_loopw [3, 5, 6, 9, 10] (InRel s w TT nt w.heap.size W0.heap.size ⟨kd, fr, to, bd, en⟩ (TT.drop (j + 1)) (.slice (some ⟨g, 0, none⟩) nt vtc)) (fun _ _ _ _ p _ => to + 2 - (intOf p).toNat)
      case atStart => exact ⟨fr, fr, ln, bg, n, L, rfl, rfl, rfl, rfl, Nat.le_refl _, by show fr ≤ to + 1; omega, Nat.le_of_lt hct, hbg, hln, HNL.out, HO.out.alloc _, HOT.out.alloc _, heap_alloc_new W0 _, hB.alloc hB.size _, .inl ⟨Nat.le_of_lt hct, hnc, noNl_refl _ _, hHT.out⟩⟩
      case round =>
        clear hbg hln hnc
        obtain ⟨q, f, ln2, bg2, n2, L2, rfl, rfl, rfl, rfl, hfq, hqt, hft, hbg, hln, hn2, ho, hot, hbx, hB2, hph⟩ := hrel
        have b0 := cell_of_row _ _ 0 _ _ _ hbx
        have b2 := cell_of_row _ _ 2 _ _ _ hbx
        have b3 := cell_of_row _ _ 3 _ _ _ hbx
        have b4 := cell_of_row _ _ 4 _ _ _ hbx
        simp only [tkc, List.getElem?_toArray, List.getElem?_cons_succ, List.getElem?_cons_zero] at b0 b2 b3 b4
        have hBlt : W0.heap.size < wr.heap.size := (Array.getElem?_eq_some_iff.1 hbx).1
        have HBX := Lib.hid hbx
        have HPH := Lib.hid hph
        have HN2 := Lib.hid hn2
        clear hbx hph hn2
        by_cases hqe : q ≤ to
        · obtain ⟨hn2f, hNo, hR⟩ : n2 ≤ f ∧ NoNl s.data.toList f q ∧ L2 ++ restF s.data.toList ⟨kd, fr, to, bd, en⟩ (TT.drop (j + 1)) f ln2 bg2 = refF s := by
            rcases HPH.out with ⟨_, h1, h2, h3⟩ | ⟨h1, _⟩
            · exact ⟨h1, h2, h3⟩
            · exact absurd h1 (by show ¬ q = to + 1; omega)
          have HNO := Lib.hid hNo
          have HR := Lib.hid hR
          clear HPH hNo hR
          by_cases hqt2 : q < to
          · have hqs : q < s.size := by omega
            by_cases c10 : s[q] = 10
            · have e3 : ((s[q].toNat : Int) == 10) = true := by rw [c10]; rfl
              have e4 : ((s[q].toNat : Int) != 10) = false := by rw [c10]; rfl
              have C10 := Lib.hid c10
              clear c10
              by_cases hfq2 : f < q
              · by_cases hk0 : 0 < kd
                · go_wp2_with (first | (go_at_call 52; refine (within_any _ _ _ _ hfq).mono ?_; rintro e w' ⟨rfl, rfl⟩) | (at_builtin; refine wpList_append_own _ rfl _ _ 50 rfl w.heap.size 56 i0 (.agg #[.int .i64 0, .int .i64 0, .int .i64 0, .int .i64 0, .int .i64 0, .int .i64 0]) 6 48 Tryz.underlying50 hi hz0 hz1 hz2 rfl (by decide) _ _ _ rfl ((ho.alloc _).alloc _) ⟨wr.heap.size + 1, 0, none⟩ 1 1 [.int .i64 ln2, .int .i64 kd, .int .i64 ((f : Int) - bg2), .int .i64 ((q : Int) - bg2), .int .i64 (((min (max bd f) q : Nat) : Int) - bg2), .int .i64 (((min (max en f) q : Nat) : Int) - bg2)] rfl rfl (rp_cells _ _ _ rfl _) (by simp [Value.oneCell']) (by unfold maxLen; omega) (by omega) (by have := hB2.size; simp; omega) ?_; intro v' w2 ho' hg _; have hbx2 := Lib.hid (rp_keep HBX.out hg (own_ne ho HBX.out (by decide))); have bb2 := cell_of_row _ _ 2 _ _ _ hbx2.out; simp only [tkc, List.getElem?_toArray, List.getElem?_cons_succ, List.getElem?_cons_zero] at bb2))
                  go_roundw
                  case rel => exact in_nl hqt2 hto hfq hln (by omega) (evF_len1 hfq2 _ _ HN2.out) (by rw [List.flatMap_append, ← rp_list hfq2 hbg hk0]; exact ho') (((hot.alloc _).alloc _).kept hg (own_ne2 ho hot (by decide))) hbx2.out (((hB2.alloc hB2.size _).alloc (Nat.le_trans hB2.size (by simp)) _).grown hg (by have := hB2.size; simp; omega) (fun k e => (ho.lt k e).1)) HNO.out ⟨hqs, C10.out⟩ HR.out
                  case measure => simp [intOf]; omega
                · have hkz : kd = 0 := by omega
                  have b00 : wr.cell? ⟨W0.heap.size, 0, none⟩ = some (.int .i64 0) := by rw [b0, hkz]; rfl
                  have HKZ := Lib.hid hkz
                  clear b0 hk0 hkz
                  go_wp2_with (first | fail | (at_builtin; refine wpList_append_own _ rfl _ _ 50 rfl w.heap.size 56 i0 (.agg #[.int .i64 0, .int .i64 0, .int .i64 0, .int .i64 0, .int .i64 0, .int .i64 0]) 6 48 Tryz.underlying50 hi hz0 hz1 hz2 rfl (by decide) _ _ _ rfl ((ho.alloc _).alloc _) ⟨wr.heap.size + 1, 0, none⟩ 1 1 [.int .i64 ln2, .int .i64 0, .int .i64 ((f : Int) - bg2), .int .i64 ((q : Int) - bg2), .int .i64 0, .int .i64 0] rfl rfl (rp_cells _ _ _ rfl _) (by simp [Value.oneCell']) (by unfold maxLen; omega) (by omega) (by have := hB2.size; simp; omega) ?_; intro v' w2 ho' hg _; have hbx2 := Lib.hid (rp_keep HBX.out hg (own_ne ho HBX.out (by decide))); have bb2 := cell_of_row _ _ 2 _ _ _ hbx2.out; simp only [tkc, List.getElem?_toArray, List.getElem?_cons_succ, List.getElem?_cons_zero] at bb2))
                  go_roundw
                  case rel => exact in_nl hqt2 hto hfq hln (by omega) (evF_len1 hfq2 _ _ HN2.out) (by rw [List.flatMap_append, ← rp_list0 hfq2 hbg HKZ.out]; exact ho') (((hot.alloc _).alloc _).kept hg (own_ne2 ho hot (by decide))) hbx2.out (((hB2.alloc hB2.size _).alloc (Nat.le_trans hB2.size (by simp)) _).grown hg (by have := hB2.size; simp; omega) (fun k e => (ho.lt k e).1)) HNO.out ⟨hqs, C10.out⟩ HR.out
                  case measure => simp [intOf]; omega
              · have hqf : q = f := by omega
                have HQF := Lib.hid hqf
                clear hqf
                have hN0 : Hid (n2 = (L2 ++ evF kd bd en f q ln2 bg2).length) := by rw [evF_none hfq2, List.append_nil]; exact HN2.out
                have hO0 : Hid (wr.ownsRow w.heap.size 56 6 u3 n2 ((L2 ++ evF kd bd en f q ln2 bg2).flatMap rpc)) := by rw [evF_none hfq2, List.append_nil]; exact ho
                go_wp2
                go_roundw
                case rel => exact in_nl hqt2 hto hfq hln (by omega) hN0.out hO0.out hot HBX.out hB2 HNO.out ⟨hqs, C10.out⟩ HR.out
                case measure => simp [intOf]; omega
            · have e3 : ((s[q].toNat : Int) == 10) = false := by simpa using fun e => c10 (wbyte_eq (n := 10) (by decide) (by simpa using e))
              have e4 : ((s[q].toNat : Int) != 10) = true := by simpa using e3
              have C10 := Lib.hid c10
              clear c10
              go_wp2
              go_roundw
              case rel => exact in_on hqt2 hfq hbg hln hn2f HN2.out ho hot HBX.out hB2 HNO.out ⟨hqs, C10.out⟩ HR.out
              case measure => simp [intOf]; omega
          · have hqe2 : q = to := by omega
            have HQE := Lib.hid hqe2
            have hge : to ≤ q := by omega
            have eB : decide (q < to) = false := decide_eq_false (by omega)
            have eB2 : decide ((q : Int) < (to : Int)) = false := decide_eq_false (by omega)
            clear hqe2 hqt2
            by_cases hfq2 : f < q
            · by_cases hk0 : 0 < kd
              · go_wp2_with (first | (go_at_call 52; refine (within_any _ _ _ _ hfq).mono ?_; rintro e w' ⟨rfl, rfl⟩) | (at_builtin; refine wpList_append_own _ rfl _ _ 50 rfl w.heap.size 56 i0 (.agg #[.int .i64 0, .int .i64 0, .int .i64 0, .int .i64 0, .int .i64 0, .int .i64 0]) 6 48 Tryz.underlying50 hi hz0 hz1 hz2 rfl (by decide) _ _ _ rfl ((ho.alloc _).alloc _) ⟨wr.heap.size + 1, 0, none⟩ 1 1 [.int .i64 ln2, .int .i64 kd, .int .i64 ((f : Int) - bg2), .int .i64 ((q : Int) - bg2), .int .i64 (((min (max bd f) q : Nat) : Int) - bg2), .int .i64 (((min (max en f) q : Nat) : Int) - bg2)] rfl rfl (rp_cells _ _ _ rfl _) (by simp [Value.oneCell']) (by unfold maxLen; omega) (by omega) (by have := hB2.size; simp; omega) ?_; intro v' w2 ho' hg _; have hbx2 := Lib.hid (rp_keep HBX.out hg (own_ne ho HBX.out (by decide))); have bb2 := cell_of_row _ _ 2 _ _ _ hbx2.out; simp only [tkc, List.getElem?_toArray, List.getElem?_cons_succ, List.getElem?_cons_zero] at bb2))
                go_roundw
                case rel => exact in_end HQE.out hto hfq hbg hln (by omega) (evF_len1 hfq2 _ _ HN2.out) (by rw [List.flatMap_append, ← rp_list hfq2 hbg hk0]; exact ho') (((hot.alloc _).alloc _).kept hg (own_ne2 ho hot (by decide))) hbx2.out (((hB2.alloc hB2.size _).alloc (Nat.le_trans hB2.size (by simp)) _).grown hg (by have := hB2.size; simp; omega) (fun k e => (ho.lt k e).1)) HNO.out HR.out
                case measure => simp [intOf]; omega
              · have hkz : kd = 0 := by omega
                have b00 : wr.cell? ⟨W0.heap.size, 0, none⟩ = some (.int .i64 0) := by rw [b0, hkz]; rfl
                have HKZ := Lib.hid hkz
                clear b0 hk0 hkz
                go_wp2_with (first | fail | (at_builtin; refine wpList_append_own _ rfl _ _ 50 rfl w.heap.size 56 i0 (.agg #[.int .i64 0, .int .i64 0, .int .i64 0, .int .i64 0, .int .i64 0, .int .i64 0]) 6 48 Tryz.underlying50 hi hz0 hz1 hz2 rfl (by decide) _ _ _ rfl ((ho.alloc _).alloc _) ⟨wr.heap.size + 1, 0, none⟩ 1 1 [.int .i64 ln2, .int .i64 0, .int .i64 ((f : Int) - bg2), .int .i64 ((q : Int) - bg2), .int .i64 0, .int .i64 0] rfl rfl (rp_cells _ _ _ rfl _) (by simp [Value.oneCell']) (by unfold maxLen; omega) (by omega) (by have := hB2.size; simp; omega) ?_; intro v' w2 ho' hg _; have hbx2 := Lib.hid (rp_keep HBX.out hg (own_ne ho HBX.out (by decide))); have bb2 := cell_of_row _ _ 2 _ _ _ hbx2.out; simp only [tkc, List.getElem?_toArray, List.getElem?_cons_succ, List.getElem?_cons_zero] at bb2))
                go_roundw
                case rel => exact in_end HQE.out hto hfq hbg hln (by omega) (evF_len1 hfq2 _ _ HN2.out) (by rw [List.flatMap_append, ← rp_list0 hfq2 hbg HKZ.out]; exact ho') (((hot.alloc _).alloc _).kept hg (own_ne2 ho hot (by decide))) hbx2.out (((hB2.alloc hB2.size _).alloc (Nat.le_trans hB2.size (by simp)) _).grown hg (by have := hB2.size; simp; omega) (fun k e => (ho.lt k e).1)) HNO.out HR.out
                case measure => simp [intOf]; omega
            · have hqf : q = f := by omega
              have HQF := Lib.hid hqf
              clear hqf
              have hN0 : Hid (n2 = (L2 ++ evF kd bd en f q ln2 bg2).length) := by rw [evF_none hfq2, List.append_nil]; exact HN2.out
              have hO0 : Hid (wr.ownsRow w.heap.size 56 6 u3 n2 ((L2 ++ evF kd bd en f q ln2 bg2).flatMap rpc)) := by rw [evF_none hfq2, List.append_nil]; exact ho
              go_wp2
              go_roundw
              case rel => exact in_end HQE.out hto hfq hbg hln (by omega) hN0.out hO0.out hot HBX.out hB2 HNO.out HR.out
              case measure => simp [intOf]; omega
        · obtain ⟨hq1, hn2t, hR⟩ : q = to + 1 ∧ n2 ≤ to ∧ L2 ++ tellsF s.data.toList (TT.drop (j + 1)) ln2 bg2 = refF s := by
            rcases HPH.out with ⟨h1, _⟩ | h1
            · exact absurd h1 hqe
            · exact h1
          have HR := Lib.hid hR
          have HQ1 := Lib.hid hq1
          clear HPH hR hq1
          go_wp2
          go_roundw
          case rel => exact ⟨j + 1, to, ln2, bg2, n2, L2, rfl, rfl, rfl, hjn, HC2.out, by have : f ≤ to := hft; omega, by have : f ≤ to := hft; omega, hn2t, HN2.out, ho, hot, HR.out, hB2⟩
          case measure => simp [intOf]; omega
    · have hje : Hid (TT.drop j = []) := by rw [List.drop_eq_nil_of_le (by rw [← HN.out]; omega)]; exact rfl
      have HF : Hid (L = refF s) := by have := HT.out; rw [hje.out, tellsF, List.append_nil] at this; exact this
      have HO := Lib.hid ho
      clear hot ho
      go_wp2
      go_ret
      exact ⟨_, rfl, by rw [← HF.out, ← HNL.out]; exact HO.out, hB⟩
end Go.Proofs.YtcnpkijjnbhagaaGreatDoor
