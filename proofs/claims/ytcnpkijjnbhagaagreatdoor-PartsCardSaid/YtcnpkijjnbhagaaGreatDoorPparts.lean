/- The function plain.Parts, walked: the lists of the lines and of the parts. -/
import Derived.Test.YtcnpkijjnbhagaaGreatDoorRlaw
import Derived.OwnWalkIn
import Derived.TacticsInMore
import Derived.LoopNIn
import Derived.LoopIn
import Derived.Maps.AppendAt
namespace Go.Proofs.YtcnpkijjnbhagaaGreatDoor
open Go.RowKit
theorem wide_fn (f : FuncId) : Fence.wide.fn f = True := rfl
theorem wide_depth : Fence.wide.depth = none := rfl
attribute [local go_sem] Oper.semAt_some wide_fn wide_depth

theorem Tryz.infoInt : (Tryz.prog.info? 3).map (fun i => (i.zero, i.size, i.bytes)) = some (some (.int .i64 0), 1, 8) := by kernel_rfl
theorem Tryz.infoPart : (Tryz.prog.info? 58).map (fun i => (i.zero, i.size, i.bytes)) = some (some (.agg #[.int .i64 0, .int .i64 0, .int .i64 0, .int .i64 0, .int .i64 0]), 5, 40) := by kernel_rfl

/-- The cell of a line's number, and the cells of a part. -/
def lnv (x : Pt) : Value := .int .i64 x.ln
def ptc (x : Pt) : List Value := [.int .i64 x.kd, .int .i64 x.fr, .int .i64 x.to, .int .i64 x.bd, .int .i64 x.en]
/-- What may turn while plain.Parts runs. -/
def Ours (b : Nat) : Nat → Prop := fun k => b ≤ k
/-- A statement that the walk does not open. -/
def Shut (p : Prop) : Prop := p
/-- What the boxes hold. -/
structure PpHas (W0 : World) (n : Int) (pre : List Pt) (W : World) : Prop where
  nbox : Boxed W W0.heap.size 3 (.int .i64 n)
  lbox : ∃ v, Boxed W (W0.heap.size + 1) 29 v ∧ W.ownsRow (W0.heap.size + 9) 3 1 v pre.length (pre.map lnv)
  pbox : ∃ v, Boxed W (W0.heap.size + 1 + 1) 52 v ∧ W.ownsRow (W0.heap.size + 9) 58 5 v pre.length (pre.flatMap ptc)
  only : Only (Ours W0.heap.size) W0 W
def PpAt (W0 : World) (n : Int) (pre : List Pt) (W : World) : Prop := PpHas W0 n pre W ∧ pre.length < 1000 ∧ (1 ≤ n → (pre.length : Int) < n)
def PpOut (W0 : World) (n : Int) (c : Nat) (pre : List Pt) (W : World) : Prop := c = 0 ∧ PpHas W0 n pre W ∧ pre.length ≤ 1000 ∧ (1 ≤ n → (pre.length : Int) ≤ n) ∧ ((pre.length : Int) = n ∨ pre.length = 1000) ∧ pre ≠ []
/-- How many parts are kept. -/
def cutAt (n : Int) (all : List Pt) : List Pt := all.take (if 1 ≤ n ∧ n ≤ 1000 then n.toNat else 1000)

theorem boxed_only {S : Nat → Prop} {W W' : World} {B : Nat} {t : TypeId} {v : Value} (h : Boxed W B t v) (ho : Only S W W') (hB : ¬ S B) : Boxed W' B t v := (ho.block B h.lt hB).trans h
theorem ownsRow_only {S : Nat → Prop} {W W' : World} {base : Nat} {e : TypeId} {size : Nat} {v : Value} {k : Nat} {xs : List Value} (h : W.ownsRow base e size v k xs) (ho : Only S W W') (hb : ∀ k, S k → k < base) : W'.ownsRow base e size v k xs := by
  refine ⟨h.1, ?_⟩
  rcases h.2 with hn | ⟨g, cap, cur, hv, hbg, hg, rest⟩
  · exact .inl hn
  · exact .inr ⟨g, cap, cur, hv, hbg, (ho.block g (Array.getElem?_eq_some_iff.1 hg).1 (fun hs => by have := hb g hs; omega)).trans hg, rest⟩
theorem ownsRow_shape {W : World} {base : Nat} {e : TypeId} {size : Nat} {v : Value} {k : Nat} {xs : List Value} (h : W.ownsRow base e size v k xs) : ∃ o c, v = .slice o k c := by
  rcases h.2 with ⟨rfl, rfl⟩ | ⟨g, cap, cur, rfl, _⟩
  · exact ⟨_, _, rfl⟩
  · exact ⟨_, _, rfl⟩
theorem PpHas.keep {W0 : World} {n : Int} {pre : List Pt} {W W' : World} (h : PpHas W0 n pre W) (ho : Only (fun k => W0.heap.size + 4 ≤ k ∧ k < W0.heap.size + 9) W W') : PpHas W0 n pre W' := by
  obtain ⟨v, hv, hr⟩ := h.lbox
  obtain ⟨u, hu, hq⟩ := h.pbox
  exact ⟨boxed_only h.nbox ho (by omega), ⟨v, boxed_only hv ho (by omega), ownsRow_only hr ho (by omega)⟩, ⟨u, boxed_only hu ho (by omega), ownsRow_only hq ho (by omega)⟩,
    h.only.trans (ho.mono fun k hk => by unfold Ours; omega)⟩
theorem cutAt_done {n : Int} {all : List Pt} (h1 : all.length < 1000) (h2 : 1 ≤ n → (all.length : Int) < n) : cutAt n all = all := by
  unfold cutAt; split
  · exact List.take_of_length_le (by have := h2 (by omega); omega)
  · exact List.take_of_length_le (by omega)
theorem cutAt_stop {n : Int} {pre all : List Pt} (hp : pre <+: all) (h1 : pre.length ≤ 1000) (h2 : 1 ≤ n → (pre.length : Int) ≤ n) (h3 : (pre.length : Int) = n ∨ pre.length = 1000) (h4 : pre ≠ []) : cutAt n all = pre := by
  have hl : 0 < pre.length := List.length_pos_iff.2 h4
  have : (if 1 ≤ n ∧ n ≤ 1000 then n.toNat else 1000) = pre.length := by
    split
    · rename_i h; have := h2 h.1; omega
    · rename_i h; omega
  unfold cutAt
  rw [this]
  exact (List.prefix_iff_eq_take.1 hp).symm

theorem pp_appended {W w1 : World} {n₀ B : Nat} {t e : TypeId} {size : Nat} {v v' : Value} {k m : Nat} {xs ys : List Value} {tmp : Obj}
    (hv : Boxed W B t v) (hB : B < n₀) (hrow : W.ownsRow n₀ e size v k xs) (hown' : w1.ownsRow n₀ e size v' m ys) (hgrow : (W.alloc tmp).grownBy w1 v.ownBlock) :
    Boxed w1 B t v ∧ Boxed (w1.setCell ⟨B, 0, none⟩ v') B t v' ∧ (w1.setCell ⟨B, 0, none⟩ v').ownsRow n₀ e size v' m ys ∧ Only (fun k => k = B ∨ v.ownBlock = some k) W (w1.setCell ⟨B, 0, none⟩ v') := by
  have hne : ∀ {X : World} {r : Value} {j : Nat} {zs : List Value}, X.ownsRow n₀ e size r j zs → some B ≠ r.ownBlock := fun h e' => by have := (h.lt B e'.symm).1; omega
  have hv1 : Boxed w1 B t v := (hv.alloc tmp).kept hgrow (hne hrow)
  refine ⟨hv1, hv1.set v', hown'.kept (grownBy_setCell' w1 B v') (.inr (hne hown').symm), ?_⟩
  refine ⟨hgrow.os, hgrow.tape, hgrow.output, ?_, fun k hk hn => ?_⟩
  · have h1 := hgrow.size
    have h2 := (grownBy_setCell' w1 B v').size
    rw [World.size_alloc] at h1
    omega
  · exact (Below.heap_setCell _ _ _ k (fun e' => hn (.inl e'))).trans ((hgrow.block k (by rw [World.size_alloc]; omega) (fun e' => hn (.inr e'.symm))).trans (Below.heap_alloc _ _ k hk))
theorem ownsRow_besides {S : Nat → Prop} {W W' : World} {base : Nat} {e : TypeId} {size : Nat} {v : Value} {k : Nat} {xs : List Value} (h : W.ownsRow base e size v k xs) (ho : Only S W W') (hb : ∀ g cur, base ≤ g → W.heap[g]? = some (.cells cur e (0, 0)) → ¬ S g) : W'.ownsRow base e size v k xs := by
  refine ⟨h.1, ?_⟩
  rcases h.2 with hn | ⟨g, cap, cur, hv, hbg, hg, rest⟩
  · exact .inl hn
  · exact .inr ⟨g, cap, cur, hv, hbg, (ho.block g (Array.getElem?_eq_some_iff.1 hg).1 (hb g cur hbg hg)).trans hg, rest⟩
theorem pt_cells (W : World) (x : Pt) (o : Obj) (ho : o = .cells (ptc x).toArray 58 (0, 0)) : ∀ (j : Nat) (u : Value), (ptc x)[j]? = some u → (W.alloc o).cell? (Addr.add ⟨W.heap.size, 0, none⟩ j) = some u := by
  intro j u hj
  subst ho
  have := World.alloc_heap_new W (.cells (ptc x).toArray 58 (0, 0))
  rcases j with _ | j
  · have h0 : (Addr.add ⟨W.heap.size, 0, none⟩ 0) = ⟨W.heap.size, 0, none⟩ := by simp [Addr.add]
    rw [h0]
    simp only [World.cell?, this]
    simpa using hj
  · have h0 : (Addr.add ⟨W.heap.size, 0, none⟩ (j + 1)) = ⟨W.heap.size, j + 1, none⟩ := by simp [Addr.add]
    rw [h0]
    simp only [World.cell?, this]
    simpa using hj
theorem ownsRow_type {W : World} {base : Nat} {e : TypeId} {size : Nat} {v : Value} {k : Nat} {xs : List Value} (h : W.ownsRow base e size v k xs) {g : Nat} (hg : v.ownBlock = some g) : ∃ cur, W.heap[g]? = some (.cells cur e (0, 0)) := by
  rcases h.2 with ⟨rfl, _⟩ | ⟨g', cap, cur, rfl, _, hg', _⟩
  · simp [Value.ownBlock] at hg
  · obtain rfl : g' = g := by simpa [Value.ownBlock] using hg
    exact ⟨_, hg'⟩

set_option maxHeartbeats 1000000 in
set_option maxRecDepth 100000 in
theorem pparts_any (s : ByteArray) (n m : Int) (W : World) (hs : s.size ≤ maxLen) (hm : W.cell? ⟨8, 0, none⟩ = some (.int .i64 m)) :
    Calls Tryz.prog 29 #[.string s, .int .i64 n] W fun e W' => ∃ v u, e = .returned (.tuple #[v, u]) ∧ W'.ownsRow (W.heap.size + 9) 3 1 v (cutAt n (partsOf s)).length ((cutAt n (partsOf s)).map lnv) ∧
      W'.ownsRow (W.heap.size + 9) 58 5 u (cutAt n (partsOf s)).length ((cutAt n (partsOf s)).flatMap ptc) ∧ Only (Ours W.heap.size) W W' := by
  refine (callsIn_wide (n := 0)).1 ?_
  refine callsIn_of_wp_marks Tryz.func29 rfl trivial ?_ rfl
  have hMs : 8 < W.heap.size := World.block_lt_of_cell? W ⟨8, 0, none⟩ hm
  simp only [Tryz.ntmps29, List.size_toArray, List.length_cons, List.length_nil, Nat.reduceAdd, Nat.reduceSub, Array.replicate_succ, Array.replicate_zero, List.push_toArray, List.append_toArray, List.nil_append, List.cons_append]
  gi_wp2_with (gi_at_call 53; refine (callsIn_wide.2 (gparts_any s _)).mono ?_; rintro e w' ⟨rfl, rfl⟩)
  rename_i Q' K hK
  obtain ⟨w, hw⟩ : ∃ w, ((((W.alloc (Obj.cells #[Value.int IntKind.i64 n] 3)).alloc (Obj.cells #[Value.slice none 0 0] 29)).alloc (Obj.cells #[Value.slice none 0 0] 52)).alloc (Obj.cells #[Value.string s] 9)) = w := ⟨_, rfl⟩
  have hws : w.heap.size = W.heap.size + 4 := by rw [← hw]; simp
  have honly : Only (Ours W.heap.size) W w := by rw [← hw]; exact ((((Only.refl _ W).alloc _).alloc _).alloc _).alloc _
  have hn0 : Boxed w W.heap.size 3 (.int .i64 n) := by rw [← hw]; exact (((Boxed.new W _ _).alloc _).alloc _).alloc _
  have hl0 : Boxed w (W.heap.size + 1) 29 (.slice none 0 0) := by
    have := Boxed.new (W.alloc (Obj.cells #[Value.int IntKind.i64 n] 3)) 29 (.slice none 0 0)
    rw [World.size_alloc] at this
    rw [← hw]; exact (this.alloc _).alloc _
  have hp0 : Boxed w (W.heap.size + 1 + 1) 52 (.slice none 0 0) := by
    have := Boxed.new ((W.alloc (Obj.cells #[Value.int IntKind.i64 n] 3)).alloc (Obj.cells #[Value.slice none 0 0] 29)) 52 (.slice none 0 0)
    rw [World.size_alloc, World.size_alloc] at this
    rw [← hw]; exact this.alloc _
  have ht0 : Boxed w (W.heap.size + 1 + 1 + 1) 9 (.string s) := by
    have := Boxed.new (((W.alloc (Obj.cells #[Value.int IntKind.i64 n] 3)).alloc (Obj.cells #[Value.slice none 0 0] 29)).alloc (Obj.cells #[Value.slice none 0 0] 52)) 9 (.string s)
    rw [World.size_alloc, World.size_alloc, World.size_alloc] at this
    rw [← hw]; exact this
  have hm0 : w.cell? ⟨8, 0, none⟩ = some (.int .i64 m) := by
    rw [← hm]; refine World.cell?_of_block ?_
    rw [← hw]
    exact (Below.heap_alloc _ _ _ (by simp only [World.size_alloc]; omega)).trans ((Below.heap_alloc _ _ _ (by simp only [World.size_alloc]; omega)).trans ((Below.heap_alloc _ _ _ (by simp only [World.size_alloc]; omega)).trans (Below.heap_alloc _ _ _ hMs)))
  have hI0 : PpAt W n [] w := ⟨⟨hn0, ⟨_, hl0, rfl, .inl ⟨rfl, rfl⟩⟩, ⟨_, hp0, rfl, .inl ⟨rfl, rfl⟩⟩, honly⟩, by simp, fun h => by simp only [List.length_nil]; omega⟩
  rw [hw]
  clear hw hn0 hl0 hp0 honly
  have hHeld : ∀ k, Held (OwnS (w.heap.size + 2)) w.heap.size k → k = 8 ∨ (W.heap.size + 4 ≤ k ∧ k < W.heap.size + 9) := by
    intro k hk; unfold Held OwnS at hk; omega
  have hHeldW : ∀ k, Wr (Held (OwnS (w.heap.size + 2)) w.heap.size) k → W.heap.size + 4 ≤ k ∧ k < W.heap.size + 9 := by
    intro k hk; have := hHeld k hk.1; have := hk.2; omega
  refine wpIn_rangeFunc_pts (gf := 96) (lb := #[.pointer (some ⟨W.heap.size + 1 + 1 + 1, 0, none⟩)]) rfl (enters_of Tryz.func96 (by kernel_rfl) rfl) (OwnS (w.heap.size + 2)) (by intro k hk; unfold OwnS at hk; omega) (by omega) (partsOf s) ?seq rfl
    (PpAt W n) (PpOut W n) (fun pre A B h ho => ⟨h.1.keep (ho.mono hHeldW), h.2⟩) (fun c pre A B h ho => ⟨h.1, h.2.1.keep (ho.mono hHeldW), h.2.2⟩) hI0
    (fun x V => { tmps := #[Value.string s, Value.int IntKind.i64 n, undef, Value.pointer (some { block := W.heap.size, off := 0 }),
          Value.slice none 0 0, Value.slice none 0 0, Value.pointer (some { block := W.heap.size + 1, off := 0 }),
          Value.pointer (some { block := W.heap.size + 1 + 1, off := 0 }), .int .i64 x.ln, .pointer (some ⟨V.heap.size, 0, none⟩), Value.string s,
          Value.func (Fn.func 96) #[] #[Value.pointer (some { block := W.heap.size + 1 + 1 + 1, off := 0 })], .int .i64 x.ln,
          ptv x, undef, undef, undef, undef, undef, undef, undef, undef, undef, undef, undef, undef, undef, undef,
          undef, undef, undef, undef, undef], defers := [] })
    (fun x V => V.alloc (.cells (ptc x).toArray 58)) (fun x V => (Only.refl _ V).alloc _) ?assign ?body ?done ?stop
  case seq =>
    intro r J Jx hJ hJx hY h0
    obtain ⟨w1, hw1⟩ : ∃ w1, (w.alloc (.deferred (some []))).alloc (.loop r) = w1 := ⟨_, rfl⟩
    have hs1 : w1.heap.size = w.heap.size + 2 := by rw [← hw1]; simp
    have hold : ∀ k, k < w.heap.size → w1.heap[k]? = w.heap[k]? := fun k hk => by
      rw [← hw1]; exact (Below.heap_alloc _ _ k (by simp only [World.size_alloc]; omega)).trans (Below.heap_alloc _ _ k hk)
    rw [hw1] at h0 ⊢
    rw [← hs1] at hJ hJx hY
    exact callsIn_wide.2 (gparts1_any _ _ s m J Jx w1 hJ hJx hY hs ((World.cell?_of_block (hold 8 (by omega))).trans hm0) ((World.cell?_of_block (hold (W.heap.size + 1 + 1 + 1) (by omega))).trans ht0.cell) h0)
  case assign =>
    intro l x V K' hK'
    unfold ptv at hK' ⊢
    clear hK
    gi_wp2
    rfl
  case body =>
    intro l pre x rest V0 V hall hSl hon hI
    clear hK
    obtain ⟨⟨hnb, ⟨v, hv, hr⟩, ⟨u, hu, hq⟩, hon0⟩, hc1, hc2⟩ := hI
    obtain ⟨vo, vc, rfl⟩ := ownsRow_shape hr
    obtain ⟨uo, uc, rfl⟩ := ownsRow_shape hq
    have hb8 : W.heap.size + 9 ≤ V0.heap.size := by have := hSl (w.heap.size + 2 + 1 + 1) (.inl (.inr (.inr (.inr rfl)))); omega
    have hVs : V0.heap.size + 1 ≤ V.heap.size := by have := hon.size; simpa using this
    have hx : V.heap[V0.heap.size]? = some (.cells (ptc x).toArray 58 (0, 0)) := (hon.block _ (by simp) (fun hh => by have := hHeld _ hh; omega)).trans (World.alloc_heap_new _ _)
    clear hon
    obtain ⟨i0, hi, hz0, hz1, hz2⟩ := info_parts Tryz.infoInt
    obtain ⟨j0, ji, jz0, jz1, jz2⟩ := info_parts Tryz.infoPart
    refine wpIn_block (wpIn_seq ?_)
    have hv1 := hv.cell
    refine wpIn_mono (Q := fun e a' V2 => Shut (e = .normal ∧ ∃ t14 t15 t16 t17 vo' vc', a' = { defers := [], tmps := #[Value.string s, Value.int IntKind.i64 n, undef, Value.pointer (some { block := W.heap.size, off := 0 }),
          Value.slice none 0 0, Value.slice none 0 0, Value.pointer (some { block := W.heap.size + 1, off := 0 }),
          Value.pointer (some { block := W.heap.size + 1 + 1, off := 0 }), .int .i64 x.ln, .pointer (some ⟨V0.heap.size, 0, none⟩), Value.string s,
          Value.func (Fn.func 96) #[] #[Value.pointer (some { block := W.heap.size + 1 + 1 + 1, off := 0 })], .int .i64 x.ln,
          ptv x, t14, t15, t16, t17, undef, undef, undef, undef, undef, undef, undef, undef, undef, undef,
          undef, undef, undef, undef, undef] } ∧ Boxed V2 (W.heap.size + 1) 29 (.slice vo' (pre.length + 1) vc') ∧ V2.ownsRow (W.heap.size + 9) 3 1 (.slice vo' (pre.length + 1) vc') (pre.length + 1) (pre.map lnv ++ [lnv x]) ∧
          Only (fun k => k = W.heap.size + 1 ∨ (W.heap.size + 9 ≤ k ∧ ∃ cur, V.heap[k]? = some (.cells cur 3 (0, 0)))) V V2)) ?_ ?_
    · gi_wp2_with (gi_at_builtin; refine wpListIn_append_own _ rfl _ _ 29 rfl (W.heap.size + 9) 3 i0 (.int .i64 0) 1 8 Tryz.underlying29 hi hz0 hz1 hz2 rfl (by decide) _ _ _ rfl (hr.alloc _) ⟨V.heap.size, 0, none⟩ 1 1 [lnv x] rfl rfl (cell_one_new _ _ _) (by simp [Value.oneCell', lnv]) (by unfold maxLen; omega) (by omega) (by simp only [World.size_alloc]; omega) ?_; intro v' w1 hown1 hgrow1 hnil1; clear hnil1; obtain ⟨vo', vc', rfl⟩ := ownsRow_shape hown1; have hap := pp_appended hv (by omega) hr hown1 hgrow1; have hv1b := hap.1.cell; have hv1f := hap.1.frozen)
      refine ⟨_, _, hap.2.1, hap.2.2.1, hap.2.2.2.mono fun k hk => ?_⟩
      rcases hk with rfl | hk
      · exact .inl rfl
      · exact .inr ⟨(hr.lt k hk).1, ownsRow_type hr hk⟩
    · rintro e a' V2 ⟨rfl, t14, t15, t16, t17, vo', vc', rfl, hv2, hr2, ho2⟩
      have hns : ∀ k, W.heap.size + 9 ≤ k → (∃ cur, V.heap[k]? = some (.cells cur 58 (0, 0))) → ¬ (k = W.heap.size + 1 ∨ (W.heap.size + 9 ≤ k ∧ ∃ cur, V.heap[k]? = some (.cells cur 3 (0, 0)))) := by
        rintro k hk ⟨c1, h1⟩ (h | ⟨_, c2, h2⟩)
        · omega
        · rw [h1] at h2; cases h2
      have hx2 : V2.heap[V0.heap.size]? = some (.cells (ptc x).toArray 58 (0, 0)) := (ho2.block _ (by omega) (hns _ hb8 ⟨_, hx⟩)).trans hx
      have hq2 : V2.ownsRow (W.heap.size + 9) 58 5 (.slice uo pre.length uc) pre.length (pre.flatMap ptc) := ownsRow_besides hq ho2 (fun g cur hg hc => hns g hg ⟨cur, hc⟩)
      have hu2 := boxed_only hu ho2 (by omega)
      have hn2 := boxed_only hnb ho2 (by omega)
      have hVs2 : V.heap.size ≤ V2.heap.size := ho2.size
      clear hx hq hu hnb hv hr hns hv1
      have hu2c := hu2.cell
      have hx0 : V2.cell? ⟨V0.heap.size, 0, none⟩ = some (.int .i64 x.kd) := by simp [World.cell?, hx2, ptc]
      have hx1 : V2.cell? ⟨V0.heap.size, 1, none⟩ = some (.int .i64 x.fr) := by simp [World.cell?, hx2, ptc]
      have hx2' : V2.cell? ⟨V0.heap.size, 2, none⟩ = some (.int .i64 x.to) := by simp [World.cell?, hx2, ptc]
      have hx3 : V2.cell? ⟨V0.heap.size, 3, none⟩ = some (.int .i64 x.bd) := by simp [World.cell?, hx2, ptc]
      have hx4 : V2.cell? ⟨V0.heap.size, 4, none⟩ = some (.int .i64 x.en) := by simp [World.cell?, hx2, ptc]
      refine wpIn_seq ?_
      refine wpIn_mono (Q := fun e a' V3 => Shut (e = .normal ∧ ∃ t18 t19 t20 t21 uo' uc', a' = { defers := [], tmps := #[Value.string s, Value.int IntKind.i64 n, undef, Value.pointer (some { block := W.heap.size, off := 0 }),
          Value.slice none 0 0, Value.slice none 0 0, Value.pointer (some { block := W.heap.size + 1, off := 0 }),
          Value.pointer (some { block := W.heap.size + 1 + 1, off := 0 }), .int .i64 x.ln, .pointer (some ⟨V0.heap.size, 0, none⟩), Value.string s,
          Value.func (Fn.func 96) #[] #[Value.pointer (some { block := W.heap.size + 1 + 1 + 1, off := 0 })], .int .i64 x.ln,
          ptv x, t14, t15, t16, t17, t18, t19, t20, t21, undef, undef, undef, undef, undef, undef,
          undef, undef, undef, undef, undef] } ∧ Boxed V3 (W.heap.size + 1 + 1) 52 (.slice uo' (pre.length + 1) uc') ∧ V3.ownsRow (W.heap.size + 9) 58 5 (.slice uo' (pre.length + 1) uc') (pre.length + 1) (pre.flatMap ptc ++ ptc x) ∧
          Only (fun k => k = W.heap.size + 1 + 1 ∨ (W.heap.size + 9 ≤ k ∧ ∃ cur, V2.heap[k]? = some (.cells cur 58 (0, 0)))) V2 V3)) ?_ ?_
      · gi_wp2_with (gi_at_builtin; refine wpListIn_append_own _ rfl _ _ 52 rfl (W.heap.size + 9) 58 j0 (.agg #[.int .i64 0, .int .i64 0, .int .i64 0, .int .i64 0, .int .i64 0]) 5 40 Tryz.underlying52 ji jz0 jz1 jz2 rfl (by decide) _ _ _ rfl (hq2.alloc _) ⟨V2.heap.size, 0, none⟩ 1 1 (ptc x) rfl rfl (pt_cells _ x _ rfl) (by simp [Value.oneCell', ptc]) (by unfold maxLen; omega) (by omega) (by simp only [World.size_alloc]; omega) ?_; intro u' w1 hown1 hgrow1 hnil1; clear hnil1; obtain ⟨uo', uc', rfl⟩ := ownsRow_shape hown1; have hap := pp_appended hu2 (by omega) hq2 hown1 hgrow1; have hv1b := hap.1.cell; have hv1f := hap.1.frozen)
        refine ⟨_, _, hap.2.1, hap.2.2.1, hap.2.2.2.mono fun k hk => ?_⟩
        rcases hk with rfl | hk
        · exact .inl rfl
        · exact .inr ⟨(hq2.lt k hk).1, ownsRow_type hq2 hk⟩
      · rintro e a' V3 ⟨rfl, t18, t19, t20, t21, uo', uc', rfl, hu3, hq3, ho3⟩
        have hns : ∀ k, W.heap.size + 9 ≤ k → (∃ cur, V2.heap[k]? = some (.cells cur 3 (0, 0))) → ¬ (k = W.heap.size + 1 + 1 ∨ (W.heap.size + 9 ≤ k ∧ ∃ cur, V2.heap[k]? = some (.cells cur 58 (0, 0)))) := by
          rintro k hk ⟨c1, h1⟩ (h | ⟨_, c2, h2⟩)
          · omega
          · rw [h1] at h2; cases h2
        have hr3 : V3.ownsRow (W.heap.size + 9) 3 1 (.slice vo' (pre.length + 1) vc') (pre.length + 1) (pre.map lnv ++ [lnv x]) := ownsRow_besides hr2 ho3 (fun g cur hg hc => hns g hg ⟨cur, hc⟩)
        have hv3 := boxed_only hv2 ho3 (by omega)
        have hn3 := boxed_only hn2 ho3 (by omega)
        have hall3 : Only (fun k => k = W.heap.size + 1 ∨ k = W.heap.size + 1 + 1 ∨ W.heap.size + 9 ≤ k) V V3 := (ho2.mono fun k hk => by omega).trans (ho3.mono fun k hk => by omega)
        clear hns hu2 hu2c hx0 hx1 hx2 hx2' hx3 hx4
        have hhas : PpHas W n (pre ++ [x]) V3 := ⟨hn3, ⟨_, hv3, by simpa using hr3⟩, ⟨_, hu3, by simpa using hq3⟩, hon0.trans (hall3.mono fun k hk => by unfold Ours; omega)⟩
        have hkeep : Keeps (Held (OwnS (w.heap.size + 2)) w.heap.size) V V3 := ⟨hall3.size, fun k hk => hall3.block k (by have := hSl k hk; omega) (by have := hHeld k hk; omega)⟩
        have hn3c := hn3.cell
        have hu3c := hu3.cell
        clear hn3 hu3 hv3 hr3 hq3 hHeld hSl hall3 ho2 ho3 hn2 hv2 hr2 hq2
        have hlen : (pre ++ [x]).length = pre.length + 1 := by simp
        by_cases hcn : ((pre.length : Int) + 1) = n
        · have hout : PpOut W n 0 (pre ++ [x]) V3 := ⟨rfl, hhas, by omega, fun h => by omega, .inl (by omega), by simp⟩
          gi_wp2
          exact ⟨hkeep, hout⟩
        · have hcnb : ((pre.length : Int) + 1 == n) = false := by simpa using hcn
          by_cases hck : (pre.length : Int) + 1 = 1000
          · have hout : PpOut W n 0 (pre ++ [x]) V3 := ⟨rfl, hhas, by omega, fun h => by have := hc2 h; omega, .inr (by omega), by simp⟩
            have hckb : ((pre.length : Int) + 1 == 1000) = true := by simpa using hck
            gi_wp2
            exact ⟨hkeep, hout⟩
          · have hat : PpAt W n (pre ++ [x]) V3 := ⟨hhas, by omega, fun h => by have := hc2 h; omega⟩
            have hckb : ((pre.length : Int) + 1 == 1000) = false := by simpa using hck
            gi_wp2
            exact ⟨hkeep, hat⟩
  case done =>
    intro V hI hD
    refine hK _ _ ?_
    clear hK
    gi_wp2
    obtain ⟨v, hv, hr⟩ := hI.1.lbox
    obtain ⟨u, hu, hq⟩ := hI.1.pbox
    obtain ⟨vo, vc, rfl⟩ := ownsRow_shape hr
    obtain ⟨uo, uc, rfl⟩ := ownsRow_shape hq
    have hv1 := hv.cell
    have hu1 := hu.cell
    refine (wpIn_wide (n := 0)).2 ?_
    go_region
    gi_wp2
    refine ⟨by simp, .inl ⟨_, _, rfl, run_takeDeferred (w := V.drew) (by rw [← hws]; exact hD), ?_⟩⟩
    have hke : Only (fun k => W.heap.size + 4 ≤ k ∧ k < W.heap.size + 9) V (V.drew.putObj (W.heap.size + 4) (.deferred none)) := ((Only.refl _ V).drew).trans (Only.putObj _ _ (by omega))
    rw [cutAt_done hI.2.1 hI.2.2]
    exact ⟨_, results_tmp2 rfl _ _ _, _, _, rfl, ownsRow_only hr hke (by omega), ownsRow_only hq hke (by omega), (hI.1.keep hke).only⟩
  case stop =>
    intro c pre V hpre hI hD
    obtain ⟨rfl, hI, hc⟩ := hI
    gi_wp2
    obtain ⟨v, hv, hr⟩ := hI.lbox
    obtain ⟨u, hu, hq⟩ := hI.pbox
    obtain ⟨vo, vc, rfl⟩ := ownsRow_shape hr
    obtain ⟨uo, uc, rfl⟩ := ownsRow_shape hq
    have hv1 := hv.cell
    have hu1 := hu.cell
    refine (wpIn_wide (n := 0)).2 ?_
    go_region
    gi_wp2
    refine ⟨by simp, .inl ⟨_, _, rfl, run_takeDeferred (w := V.drew) hD, ?_⟩⟩
    have hke : Only (fun k => W.heap.size + 4 ≤ k ∧ k < W.heap.size + 9) V (V.drew.putObj w.heap.size (.deferred none)) := ((Only.refl _ V).drew).trans (Only.putObj _ _ (by omega))
    rw [cutAt_stop hpre hc.1 hc.2.1 hc.2.2.1 hc.2.2.2]
    exact ⟨_, results_tmp2 rfl _ _ _, _, _, rfl, ownsRow_only hr hke (by omega), ownsRow_only hq hke (by omega), (hI.keep hke).only⟩
end Go.Proofs.YtcnpkijjnbhagaaGreatDoor
