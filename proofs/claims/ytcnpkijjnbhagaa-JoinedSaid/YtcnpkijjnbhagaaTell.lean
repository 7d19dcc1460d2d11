/- The method tell of lex.reader, walked. -/
import Derived.Test.YtcnpkijjnbhagaaIter
import Derived.Deep.QuietTactic
import Derived.BigQuiet
import Derived.BigRegion
import Derived.Stop.RegionWithIn
import Derived.BigRegionIn
import Derived.Deep.DeepCutAuto
import Derived.Deep.LoopGhost
namespace Go.Proofs.Ytcnpkijjnbhagaa
open Go.RowKit

theorem indexByte_nlF : ∀ (l : List UInt8), Lib.indexByte l 10 = if nlF l < l.length then (nlF l : Int) else -1
  | [] => rfl
  | c :: l => by
    have ih := indexByte_nlF l
    unfold Lib.indexByte nlF
    by_cases hc : c = 10
    · subst hc; simp [List.takeWhile]
    · have h1 : (c == 10) = false := by simpa using hc
      have h2 : (c != 10) = true := by simp [hc]
      rw [ih]
      simp only [h1, Bool.false_eq_true, if_false, List.takeWhile_cons, h2, if_true, List.length_cons]
      have h3 : (List.takeWhile (fun x => x != 10) l).length = nlF l := rfl
      rw [h3]
      by_cases h4 : nlF l < l.length
      · have h5 : ((nlF l : Int) == -1) = false := by rw [beq_eq_false_iff_ne]; omega
        simp [h4, h5]
      · simp [h4]
theorem seg_list (s : ByteArray) (f t : Nat) : (s.extract f t).data.toList = (s.data.toList.drop f).take (t - f) := by
  simp
theorem seg_len (s : ByteArray) (f t : Nat) (h : t ≤ s.size) : ((s.data.toList.drop f).take (t - f)).length = t - f := by
  have : s.data.toList.length = s.size := by simp
  rw [List.length_take, List.length_drop]; omega
/-- What strings.IndexByte tells of the line's end. -/
def IxSpec (l : List UInt8) (f t : Nat) (ix : Int) : Prop := (0 ≤ ix → (stopF l f t : Int) = f + ix ∧ stopF l f t < t) ∧ (ix < 0 → stopF l f t = t)
theorem ix_any (s : ByteArray) (f t : Nat) (w : World) (hs : s.size ≤ 1000000) (ht : t ≤ s.size) (hf : f < t) :
    Calls Try.prog 14 #[.string (s.extract f t), .int .u8 10] w fun e w' => ∃ ix : Int, e = .returned (.int .i64 ix) ∧ w = w' ∧ IxSpec s.data.toList f t ix ∧ -1 ≤ ix ∧ ix ≤ 1000000 :=
  (Try.strings_IndexByte _ 10 w).mono fun e w' ⟨he, hw⟩ => by
    refine ⟨_, he, hw.symm, ?_⟩
    rw [show ((10 : Int).toNat.toUInt8) = 10 from rfl, indexByte_nlF, seg_list, seg_len s f t ht]
    have h1 : stopF s.data.toList f t = f + nlF ((s.data.toList.drop f).take (t - f)) := rfl
    have h2 := stopF_le s.data.toList f t (by omega)
    unfold IxSpec
    split
    · exact ⟨⟨fun _ => ⟨by rw [h1]; simp, by omega⟩, fun h => by omega⟩, by omega, by omega⟩
    · exact ⟨⟨fun h => by omega, fun _ => by omega⟩, by omega, by omega⟩

/-- What a round leaves, b being what yield hands back. -/
def YRes (S : Nat → Prop) (J Jx : List Pt → World → Prop) (q : List Pt) (W W' : World) (b : Bool) : Prop :=
  Keeps S W W' ∧ (b = true → J q W') ∧ (b = false → Jx q W')
/-- A call of yield at a part, its numbers as the walk spells them. -/
theorem yield_at {S : Nat → Prop} {R l : Nat} {s : ByteArray} {p ln bg : Nat} {y : Value} {all : List Pt} {J Jx : List Pt → World → Prop} {W : World} {q rest : List Pt} (x : Pt) (hR : S R)
    (hY : Rounds Try.prog S l all J Jx) (hall : all = q ++ x :: rest) (hSl : ∀ k, S k → k < W.heap.size) (hq : J q W) (hr : Reader W R s p ln bg y false) (i0 i1 i2 i3 i4 i5 : Int)
    (e0 : i0 = x.ln) (e1 : i1 = x.kd) (e2 : i2 = x.fr) (e3 : i3 = x.to) (e4 : i4 = x.bd) (e5 : i5 = x.en) :
    ∃ fn tmps assign body, (Instr.yield l #[.int .i64 i0, .agg #[.int .i64 i1, .int .i64 i2, .int .i64 i3, .int .i64 i4, .int .i64 i5]]).run Try.prog W = .ok (.round l fn tmps assign body) W ∧
      RoundIn Fence.wide 0 Try.prog l fn tmps assign body W (fun e W' => ∃ b, e = .returned (.bool b) ∧ YRes S J Jx (q ++ [x]) W W' b ∧ Reader W' R s p ln bg y false ∧ W'.cell? ⟨R, 5, none⟩ = some (.bool false) ∧ W'.frozen? ⟨R, 5, none⟩ = false) := by
  obtain ⟨fn, tmps, assign, body, h1, h2⟩ := hY q x rest W hall hSl hq
  subst e0; subst e1; subst e2; subst e3; subst e4; subst e5
  refine ⟨fn, tmps, assign, body, h1, h2.mono ?_⟩
  rintro e W' (⟨rfl, hj, hk⟩ | ⟨rfl, hj, hk⟩)
  · have hr' := hr.block (hk.2 R hR)
    exact ⟨true, rfl, ⟨hk, fun _ => hj, fun h => by cases h⟩, hr', hr'.c5, hr'.fz 5⟩
  · have hr' := hr.block (hk.2 R hR)
    exact ⟨false, rfl, ⟨hk, (fun h => by cases h), fun _ => hj⟩, hr', hr'.c5, hr'.fz 5⟩

/-- What behind a call of tell is so. -/
def TellPost (S : Nat → Prop) (R : Nat) (s : ByteArray) (p ln' bg' : Nat) (y : Value) (all pre' : List Pt) (J Jx : List Pt → World → Prop) (W : World) (e : Ending) (W' : World) : Prop :=
  e = .returned (.tuple #[]) ∧ (W.heap.size ≤ W'.heap.size ∧ ∀ k, S k → k ≠ R → W'.heap[k]? = W.heap[k]?) ∧
    ((Reader W' R s p ln' bg' y false ∧ J pre' W') ∨ ∃ q b c, Reader W' R s p b c y true ∧ Jx q W' ∧ q <+: all)
/-- What holds at the head of its loop; at most g rounds are still to come. -/
def TRel (S : Nat → Prop) (R : Nat) (s : ByteArray) (p kd t bd en ln' bg' : Nat) (y : Value) (all pre' : List Pt) (J Jx : List Pt → World → Prop) (W : World) (g : Nat) (u : Value) (wr : World) : Prop :=
  ∃ f : Nat, u = .int .i64 f ∧ f ≤ s.size + 1 ∧ s.size + 2 ≤ g + f ∧ (W.heap.size ≤ wr.heap.size ∧ ∀ k, S k → k ≠ R → wr.heap[k]? = W.heap[k]?) ∧
    ((∃ ln bg q, ln ≤ bg ∧ bg ≤ f ∧ Reader wr R s p ln bg y false ∧ J q wr ∧ q ++ (tellF s.data.toList kd f t bd en ln bg).1 = pre' ∧ (tellF s.data.toList kd f t bd en ln bg).2 = (ln', bg')) ∨
      ∃ q b c, Reader wr R s p b c y true ∧ Jx q wr ∧ q <+: all)
/-- What holds behind the telling of one line's piece. -/
def CRel (S : Nat → Prop) (R : Nat) (s : ByteArray) (p kd bd en f st ln bg : Nat) (y : Value) (all q : List Pt) (J Jx : List Pt → World → Prop) (W : World) (wx : World) : Prop :=
  ∃ ov, Reader wx R s p ln bg y ov ∧ (W.heap.size ≤ wx.heap.size ∧ ∀ k, S k → k ≠ R → wx.heap[k]? = W.heap[k]?) ∧ (ov = false → J (q ++ evF kd bd en f st ln bg) wx) ∧ (ov = true → ∃ q', Jx q' wx ∧ q' <+: all)

/-- The part that is told, its numbers as the walk spells them. -/
theorem evF_one {kd bd en f st ln bg : Nat} (h : f < st) (hb : bg ≤ f) : ∃ x : Pt, evF kd bd en f st ln bg = [x] ∧ x.ln = ln ∧ x.kd = kd ∧ ((f : Int) - bg) = x.fr ∧ ((st : Int) - bg) = x.to ∧
    (0 < kd → ((min (max (bd : Int) f) st - bg) = x.bd ∧ (min (max (en : Int) f) st - bg) = x.en)) ∧ (¬ 0 < kd → x.bd = 0 ∧ x.en = 0) := by
  unfold evF
  rw [if_pos h]
  exact ⟨_, rfl, rfl, rfl, by simp; omega, by simp; omega, fun hk => ⟨by simp [hk]; omega, by simp [hk]; omega⟩, fun hk => ⟨by simp [hk], by simp [hk]⟩⟩
/-- Behind the call of yield and the store of its answer. -/
theorem c_end {S : Nat → Prop} {R : Nat} {s : ByteArray} {p kd bd en f st ln bg : Nat} {y : Value} {all q r2 : List Pt} {J Jx : List Pt → World → Prop} {W wr W1 W2 : World} {x : Pt} {b : Bool}
    (hR : Wr S R) (hJ : Abides2 S J) (hJx : Abides2 S Jx) (hev : evF kd bd en f st ln bg = [x]) (hx : all = q ++ x :: r2) (hK : W.heap.size ≤ wr.heap.size ∧ ∀ k, S k → k ≠ R → wr.heap[k]? = W.heap[k]?)
    (hS : ∀ k, S k → k < wr.heap.size) (h1 : Below wr.heap.size wr W1) (hy : YRes S J Jx (q ++ [x]) W1 W2 b) (hr : Reader W2 R s p ln bg y false) (v : Bool) (hv : v = !b) :
    CRel S R s p kd bd en f st ln bg y all q J Jx W (W2.setCell ⟨R, 5, none⟩ (.bool v)) := by
  subst hv
  obtain ⟨hk, hy0, hy1⟩ := hy
  have hO : Only (Wr S) W2 (W2.setCell ⟨R, 5, none⟩ (.bool !b)) := (Only.refl _ W2).setCell (.inl hR) _
  refine ⟨!b, hr.set5 _, ⟨Nat.le_trans hK.1 (Nat.le_trans h1.size (Nat.le_trans hk.1 hO.size)), fun k hk1 hk2 => ?_⟩, fun e => ?_, fun e => ?_⟩
  · refine (Below.heap_setCell W2 ⟨R, 5, none⟩ _ k hk2).trans ((hk.2 k hk1).trans ((h1.block k (hS k hk1)).trans (hK.2 k hk1 hk2)))
  · rw [hev]; exact hJ _ _ _ (hy0 (by simpa using e)) hO
  · exact ⟨q ++ [x], hJx _ _ _ (hy1 (by simpa using e)) hO, ⟨r2, by rw [hx]; simp⟩⟩

theorem tell_ev {l : List UInt8} {kd f t bd en ln bg : Nat} {all q rest : List Pt} (hf : f < t) (h : all = q ++ (tellF l kd f t bd en ln bg).1 ++ rest) : ∃ r2, all = q ++ evF kd bd en f (stopF l f t) ln bg ++ r2 := by
  by_cases hs : stopF l f t < t
  · rw [tellF_more _ _ _ _ _ _ _ _ hf hs] at h
    exact ⟨_, by rw [h]; simp only [List.append_assoc]; rfl⟩
  · rw [tellF_last _ _ _ _ _ _ _ _ hf hs] at h
    exact ⟨rest, h⟩

/-- The round's end where more of the piece is to come. -/
theorem t_more {S : Nat → Prop} {R : Nat} {s : ByteArray} {p kd t bd en ln' bg' f st ln bg g : Nat} {y : Value} {all pre' q : List Pt} {J Jx : List Pt → World → Prop} {W wc : World}
    (hR : Wr S R) (hJ : Abides2 S J) (hJx : Abides2 S Jx) (hft : f < t) (hst1 : f ≤ st) (hst : stopF s.data.toList f t = st) (hst3 : st < t) (ht : t ≤ s.size) (hln : ln ≤ bg) (hbg : bg ≤ f) (hg : s.size + 2 ≤ g + f)
    (hP : q ++ (tellF s.data.toList kd f t bd en ln bg).1 = pre') (hE : (tellF s.data.toList kd f t bd en ln bg).2 = (ln', bg')) {ov : Bool}
    (hr : Reader wc R s p ln bg y ov) (hK : W.heap.size ≤ wc.heap.size ∧ ∀ k, S k → k ≠ R → wc.heap[k]? = W.heap[k]?)
    (hj0 : ov = false → J (q ++ evF kd bd en f st ln bg) wc) (hj1 : ov = true → ∃ q', Jx q' wc ∧ q' <+: all) (u v2 v3 : Value) (hu : u = .int .i64 ((st + 1 : Nat) : Int)) (h2 : v2 = .int .i64 ((ln + 1 : Nat) : Int)) (h3 : v3 = .int .i64 ((st + 1 : Nat) : Int)) :
    TRel S R s p kd t bd en ln' bg' y all pre' J Jx W (g - 1) u ((wc.setCell ⟨R, 2, none⟩ v2).setCell ⟨R, 3, none⟩ v3) := by
  subst hu; subst h2; subst h3
  have hO : Only (Wr S) wc ((wc.setCell ⟨R, 2, none⟩ (.int .i64 ((ln + 1 : Nat) : Int))).setCell ⟨R, 3, none⟩ (.int .i64 ((st + 1 : Nat) : Int))) := ((Only.refl _ wc).setCell (.inl hR) _).setCell (.inl hR) _
  rw [tellF_more _ _ _ _ _ _ _ _ hft (by rw [hst]; exact hst3), hst] at hP hE
  refine ⟨st + 1, rfl, by omega, by omega, ⟨Nat.le_trans hK.1 hO.size, fun k hk1 hk2 => ?_⟩, ?_⟩
  · exact (Below.heap_setCell _ ⟨R, 3, none⟩ _ k hk2).trans ((Below.heap_setCell wc ⟨R, 2, none⟩ _ k hk2).trans (hK.2 k hk1 hk2))
  · cases ov with
    | false => exact .inl ⟨ln + 1, st + 1, _, by omega, Nat.le_refl _, (hr.set2 (ln + 1)).set3 (st + 1), hJ _ _ _ (hj0 rfl) hO, by rw [← hP]; simp only [List.append_assoc], hE⟩
    | true =>
      obtain ⟨q', h1, h2⟩ := hj1 rfl
      exact .inr ⟨q', _, _, (hr.set2 (ln + 1)).set3 (st + 1), hJx _ _ _ h1 hO, h2⟩
/-- .. and where it was the last. -/
theorem t_last {S : Nat → Prop} {R : Nat} {s : ByteArray} {p kd t bd en ln' bg' f st ln bg g : Nat} {y : Value} {all pre' q : List Pt} {J Jx : List Pt → World → Prop} {W wc : World}
    (hft : f < t) (hst2 : st ≤ t) (hst : stopF s.data.toList f t = st) (hst3 : ¬ st < t) (ht : t ≤ s.size) (hln : ln ≤ bg) (hbg : bg ≤ f) (hg : s.size + 2 ≤ g + f)
    (hP : q ++ (tellF s.data.toList kd f t bd en ln bg).1 = pre') (hE : (tellF s.data.toList kd f t bd en ln bg).2 = (ln', bg')) {ov : Bool}
    (hr : Reader wc R s p ln bg y ov) (hK : W.heap.size ≤ wc.heap.size ∧ ∀ k, S k → k ≠ R → wc.heap[k]? = W.heap[k]?)
    (hj0 : ov = false → J (q ++ evF kd bd en f st ln bg) wc) (hj1 : ov = true → ∃ q', Jx q' wc ∧ q' <+: all) :
    TRel S R s p kd t bd en ln' bg' y all pre' J Jx W (g - 1) (.int .i64 st) wc := by
  rw [tellF_last _ _ _ _ _ _ _ _ hft (by rw [hst]; exact hst3), hst] at hP hE
  refine ⟨st, rfl, by omega, by omega, hK, ?_⟩
  cases ov with
  | false => exact .inl ⟨ln, bg, _, hln, by omega, hr, hj0 rfl, by rw [tellF_done _ _ _ _ _ _ _ _ hst3]; simpa using hP, by rw [tellF_done _ _ _ _ _ _ _ _ hst3]; exact hE⟩
  | true =>
    obtain ⟨q', h1, h2⟩ := hj1 rfl
    exact .inr ⟨q', _, _, hr, h1, h2⟩
theorem t_done {S : Nat → Prop} {R : Nat} {s : ByteArray} {p kd t bd en ln' bg' f ln bg : Nat} {y : Value} {all pre' q : List Pt} {J Jx : List Pt → World → Prop} {W wr : World}
    (hft : ¬ f < t) (hP : q ++ (tellF s.data.toList kd f t bd en ln bg).1 = pre') (hE : (tellF s.data.toList kd f t bd en ln bg).2 = (ln', bg'))
    (hr : Reader wr R s p ln bg y false) (hK : W.heap.size ≤ wr.heap.size ∧ ∀ k, S k → k ≠ R → wr.heap[k]? = W.heap[k]?) (hq : J q wr) :
    TellPost S R s p ln' bg' y all pre' J Jx W (.returned (.tuple #[])) wr := by
  rw [tellF_done _ _ _ _ _ _ _ _ hft] at hP hE
  cases hE
  exact ⟨rfl, hK, .inl ⟨hr, by rw [← hP]; simpa using hq⟩⟩

set_option maxHeartbeats 2000000 in
set_option maxRecDepth 100000 in
theorem tell_any (S : Nat → Prop) (R l : Nat) (s : ByteArray) (p kd f t bd en ln bg : Nat) (all pre rest : List Pt) (J Jx : List Pt → World → Prop) (W : World)
    (hR : Wr S R) (hSlt : ∀ k, S k → k < W.heap.size) (hJ : Abides2 S J) (hJx : Abides2 S Jx) (hY : Rounds Try.prog S l all J Jx) (hs : s.size ≤ 1000000) (ht : t ≤ s.size) (_hbd : bd ≤ 1000002) (_hen : en ≤ 1000002) (_hkd : kd ≤ 2)
    (hln : ln ≤ bg) (hbg : bg ≤ f) (hf : f ≤ s.size + 1)
    (hr : Reader W R s p ln bg (.func (.yield l) #[] #[]) false) (h0 : J pre W) (hall : all = pre ++ (tellF s.data.toList kd f t bd en ln bg).1 ++ rest) :
    Calls Try.prog 11 #[.pointer (some ⟨R, 0, none⟩), .int .i64 kd, .int .i64 f, .int .i64 t, .int .i64 bd, .int .i64 en] W
      (TellPost S R s p (tellF s.data.toList kd f t bd en ln bg).2.1 (tellF s.data.toList kd f t bd en ln bg).2.2 (.func (.yield l) #[] #[]) all (pre ++ (tellF s.data.toList kd f t bd en ln bg).1) J Jx W) := by
  generalize hL : (tellF s.data.toList kd f t bd en ln bg).2.1 = ln'
  generalize hB : (tellF s.data.toList kd f t bd en ln bg).2.2 = bg'
  generalize hP : pre ++ (tellF s.data.toList kd f t bd en ln bg).1 = pre'
  have hstart : TRel S R s p kd t bd en ln' bg' (.func (.yield l) #[] #[]) all pre' J Jx W (s.size + 2) (.int .i64 f) W :=
    ⟨f, rfl, hf, by omega, ⟨Nat.le_refl _, fun _ _ _ => rfl⟩, .inl ⟨ln, bg, pre, hln, hbg, hr, h0, hP, by rw [← hL, ← hB]⟩⟩
  have hall' : all = pre' ++ rest := by rw [hall, ← hP]
  have HS := Lib.hid hstart
  have HA := Lib.hid hall'
  clear hstart hall' hall hL hB hP hr h0 hln hbg hf
  go_enter Try.func11, Try.ntmps11
  go_wp2
  go_loopg [2] (s.size + 2) (TRel S R s p kd t bd en ln' bg' (.func (.yield l) #[] #[]) all pre' J Jx W)
  case atStart => exact HS.out
  case round =>
    obtain ⟨f, rfl, hf, hg, hK, hrel⟩ := hrel
    rcases hrel with ⟨ln, bg, q, hln, hbg, hr, hq, hP, hE⟩ | ⟨q, b, c, hr, hq, hpre⟩
    · have r0 := hr.c0
      have r5 := hr.c5
      by_cases hft : f < t
      · have hst1 := stopF_ge s.data.toList f t
        have hst2 := stopF_le s.data.toList f t (by omega)
        obtain ⟨st, hst⟩ : ∃ st, stopF s.data.toList f t = st := ⟨_, rfl⟩
        rw [hst] at hst1 hst2
        have HST := Lib.hid hst
        have HP := Lib.hid hP
        have HE := Lib.hid hE
        clear hst hP hE
        go_upto_if 35 with (go_at_call 14; refine (ix_any s f t _ hs ht hft).mono ?_; rintro e w' ⟨ix, rfl, rfl, hix, hi1, hi2⟩)
        go_cut [12] (fun u wx => u = .int .i64 st ∧ wr = wx)
        case first =>
          by_cases h0 : 0 ≤ ix
          · go_wp2
            go_meet
            refine ⟨?_, rfl⟩
            have := (hix.1 h0).1
            rw [HST.out] at this
            rw [this]
          · go_wp2
            go_meet
            refine ⟨?_, rfl⟩
            have := hix.2 (by omega)
            rw [HST.out] at this
            rw [this]
        case rest =>
          obtain ⟨rfl, rfl⟩ := hcut
          go_upto_if 41 with fail
          go_cut [14] (fun _ wx => CRel S R s p kd bd en f st ln bg (.func (.yield l) #[] #[]) all q J Jx W wx)
          case first =>
            by_cases hlt : f < st
            · obtain ⟨x, hev, x1, x2, x3, x4, x5, x6⟩ := evF_one (kd := kd) (bd := bd) (en := en) (ln := ln) hlt hbg
              obtain ⟨r2, hx⟩ : ∃ r2, all = q ++ x :: r2 := by
                obtain ⟨r2, h⟩ := tell_ev (l := s.data.toList) (kd := kd) (bd := bd) (en := en) (ln := ln) (bg := bg) (all := all) (q := q) (rest := rest) hft (by rw [HP.out]; exact HA.out)
                rw [HST.out, hev] at h
                exact ⟨r2, by rw [h]; simp⟩
              have HX := Lib.hid (And.intro hev (And.intro hx (And.intro x1 (And.intro x2 (And.intro x3 (And.intro x4 (And.intro x5 x6)))))))
              clear hev hx x1 x2 x3 x4 x5 x6
              have r3 := hr.c3
              have r3a := fun o => (hr.alloc o).c3
              have r4a := fun o => (hr.alloc o).c4
              have r2a := fun o => (hr.alloc o).c2
              go_wp2
              go_region
              go_upto_if 57 with fail
              go_cut [14] (fun u wx => u = .pointer (some ⟨wr.heap.size, 0, none⟩) ∧ wx = (wr.alloc (.cells #[.int .i64 kd, .int .i64 x.fr, .int .i64 x.to, .int .i64 x.bd, .int .i64 x.en] 35)).drew)
              case first =>
                obtain ⟨_, _, x1, x2, x3, x4, x5, x6⟩ := HX.out
                by_cases hk0 : 0 < kd
                · have hk1 := x5 hk0
                  have HH := Lib.hid (And.intro x3 (And.intro x4 hk1))
                  clear x1 x2 x3 x4 x5 x6 hk1
                  go_wp2
                  go_meet
                  refine ⟨rfl, ?_⟩
                  obtain ⟨x3, x4, x5, x6⟩ := HH.out
                  rw [← x3, ← x4, ← x5, ← x6]
                · have hk1 := x6 hk0
                  have HH := Lib.hid (And.intro x3 (And.intro x4 hk1))
                  clear x1 x2 x3 x4 x5 x6 hk1
                  go_wp2
                  go_meet
                  refine ⟨rfl, ?_⟩
                  obtain ⟨x3, x4, x5, x6⟩ := HH.out
                  rw [← x3, ← x4, x5, x6]
                  rfl
              case rest =>
                obtain ⟨rfl, rfl⟩ := hcut
                obtain ⟨_, hx, x1, x2, _⟩ := HX.out
                obtain ⟨fn, tmps, assign, body, hy, hround⟩ := yield_at (W := ((wr.alloc (.cells #[.int .i64 kd, .int .i64 x.fr, .int .i64 x.to, .int .i64 x.bd, .int .i64 x.en] 35)).drew).drew) x hR.1 hY hx
                  (fun k hk => by have h1 := hSlt k hk; have h2 := hK.1; simp; omega) (hJ _ _ _ hq (((Only.refl _ _).alloc _).drew.drew)) ((hr.alloc _).drewN 2) ln kd x.fr x.to x.bd x.en (by rw [x1]) (by rw [x2]) rfl rfl rfl rfl
                have HY := Lib.hid hround
                clear hround hx x1 x2
                go_wp2
                refine (wpIn_wide (n := 0)).1 ?_
                gi_region_with (refine ⟨rfl, HY.out.mono ?_⟩; rintro e W2 ⟨b, rfl, hyr, hr2, c5, f5⟩)
                all_goals (try go_wp2)
                all_goals go_meet
                all_goals exact c_end hR hJ hJx HX.out.1 HX.out.2.1 hK (fun k hk => Nat.lt_of_lt_of_le (hSlt k hk) hK.1) (((Below.refl _ wr).alloc (Nat.le_refl _) _).drew.drew) hyr hr2 _ rfl
            · go_wp2
              go_meet
              exact ⟨false, hr, hK, fun _ => by simpa [evF, hlt] using hq, fun h => by cases h⟩
          case rest =>
            obtain ⟨ov, hr', hK', hj0, hj1⟩ := hcut
            have c2 := hr'.c2
            have c3 := hr'.c3
            have f2 := hr'.fz 2
            have f3 := hr'.fz 3
            by_cases hst3 : st < t
            · go_wp2
              go_roundg (gk - 1)
              case measure => omega
              case rel => exact t_more hR hJ hJx hft hst1 HST.out hst3 ht hln hbg hg HP.out HE.out hr' hK' hj0 hj1 _ _ _ rfl rfl rfl
            · go_wp2
              go_roundg (gk - 1)
              case measure => omega
              case rel => exact t_last hft hst2 HST.out hst3 ht hln hbg hg HP.out HE.out hr' hK' hj0 hj1
      · have HP := Lib.hid hP
        have HE := Lib.hid hE
        clear hP hE
        go_wp2
        go_end0
        exact t_done hft HP.out HE.out hr hK hq
    · have r5 := hr.c5
      go_wp2
      all_goals go_end0
      all_goals exact ⟨rfl, hK, .inr ⟨q, b, c, hr, hq, hpre⟩⟩
end Go.Proofs.Ytcnpkijjnbhagaa
