/- The reference's among, signs and Class, walked. -/
import Derived.Test.YtcnpkijjnbhagaaGreatDoorCof
import Derived.Test.YtcnpkijjnbhagaaGreatDoorCrunes
namespace Go.Proofs.YtcnpkijjnbhagaaGreatDoor
open Go.RowKit

/-- Numbers lie behind vo. -/
def IntsAt (W : World) (vo : Option Addr) (L : List Int) : Prop := ∀ k x, L[k]? = some x → ∃ g o, vo = some ⟨g, o, none⟩ ∧ W.cell? ⟨g, o + k, none⟩ = some (.int .i64 x)
theorem IntsAt.below {W W' : World} {vo : Option Addr} {L : List Int} (h : IntsAt W vo L) {B : Nat} (hb : Below B W W') (hB : W.heap.size ≤ B) : IntsAt W' vo L := by
  intro k x hx
  obtain ⟨g, o, rfl, hc⟩ := h k x hx
  exact ⟨g, o, rfl, (hb.cell (Nat.lt_of_lt_of_le (World.block_lt_of_cell? W ⟨g, o + k, none⟩ hc) hB)).trans hc⟩
theorem ints_new (W : World) (L : List Int) (cs : Array Value) (h : cs = (L.map fun x => Value.int .i64 x).toArray) (t : TypeId) (g : Nat) (hg : g = W.heap.size) : IntsAt (W.alloc (.cells cs t)) (some ⟨g, 0, none⟩) L := by
  subst h
  subst hg
  intro k x hx
  refine ⟨W.heap.size, 0, rfl, ?_⟩
  rw [Nat.zero_add, cell_of_row _ _ _ _ _ _ (heap_alloc_new W _)]
  simp [hx]
theorem ints_own {W : World} {base n c : Nat} {vo : Option Addr} {L : List Int} (h : W.ownsRow base 3 1 (.slice vo n c) n (L.map fun x => Value.int .i64 x)) (hn : n = L.length) : IntsAt W vo L := by
  intro k x hx
  have hk : k < L.length := by
    rcases Nat.lt_or_ge k L.length with h' | h'
    · exact h'
    · simp [List.getElem?_eq_none h'] at hx
  obtain ⟨g, hg⟩ : ∃ g, vo = some ⟨g, 0, none⟩ := by
    rcases h.2 with ⟨h1, _⟩ | ⟨g, cap, cur, h1, _⟩
    · injection h1 with _ h2 _
      omega
    · injection h1 with h2 _ _
      exact ⟨g, h2⟩
  subst hg
  have c0 := (h.cellAt k (by omega)).trans (show (L.map fun x => Value.int .i64 x)[k]? = some (Value.int .i64 x) by rw [List.getElem?_map, hx]; rfl)
  exact ⟨g, 0, rfl, by simpa using c0⟩
def AmRel (L : List Int) (r : Int) (W : World) (i : Value) (wr : World) : Prop := ∃ k : Nat, i = .int .i64 k ∧ k ≤ L.length ∧ (L.take k).contains r = false ∧ W = wr
theorem am_next {L : List Int} {r x y : Int} {k : Nat} {W : World} (hx : x = (k : Int) + 1) (hk : k < L.length) (hy : L[k]? = some y) (hne : (y == r) = false) (hc : (L.take k).contains r = false) : AmRel L r W (.int .i64 x) W := by
  subst hx
  refine ⟨k + 1, rfl, hk, ?_, rfl⟩
  rw [List.take_add_one, hy]
  simp only [Option.toList_some, List.contains_eq_mem, List.mem_append, decide_eq_false_iff_not] at hc ⊢
  intro h
  rcases h with h | h
  · exact hc h
  · simp at h hne
    exact hne h.symm
set_option maxHeartbeats 1000000 in
set_option maxRecDepth 100000 in
theorem among_any (r : Int) (L : List Int) (vo : Option Addr) (c : Nat) (W : World) (hn : L.length ≤ 1000000) (hI : IntsAt W vo L) :
    Calls Tryz.prog 42 #[.int .i64 r, .slice vo L.length c] W fun e w' => e = .returned (.bool (L.contains r)) ∧ W = w' := by
  have HI := Lib.hid hI
  clear hI
  obtain ⟨n, hnn⟩ : ∃ n, n = L.length := ⟨_, rfl⟩
  rw [← hnn] at hn
  rw [← hnn]
  have HN := Lib.hid hnn
  clear hnn
  go_enter Tryz.func42, Tryz.ntmps42
  go_wp2
  go_loopw [5] (AmRel L r W) (fun i _ => n - (intOf i).toNat)
  case atStart => exact ⟨0, rfl, Nat.zero_le _, by simp, rfl⟩
  case round =>
    obtain ⟨k, rfl, hk, hc, rfl⟩ := hrel
    have HC := Lib.hid hc
    clear hc
    by_cases hkn : k < n
    · have hk' : k < L.length := by have := HN.out; omega
      obtain ⟨y, hy⟩ : ∃ y, L[k]? = some y := ⟨_, List.getElem?_eq_getElem hk'⟩
      obtain ⟨g, o, hvo, hcell⟩ := HI.out k y hy
      subst hvo
      have HY := Lib.hid hy
      clear hk hk' hy
      cases he : (y == r) with
      | true =>
        have hT : Hid (L.contains r = true) := by
          have h1 : y = r := by simpa using he
          have h2 := List.mem_of_getElem? HY.out
          rw [h1] at h2
          exact (show L.contains r = true by simpa using h2)
        go_wp2
        go_ret
        exact ⟨by rw [hT.out]; rfl, rfl⟩
      | false =>
        go_wp2
        go_roundw
        case rel => exact am_next rfl (by have := HN.out; omega) HY.out he HC.out
        case measure => exact sz_less rfl hkn
    · have hF : Hid (L.contains r = false) := by
        have h1 := HC.out
        have h2 : k = L.length := by have := HN.out; omega
        rw [h2, List.take_length] at h1
        exact h1
      clear hk
      go_wp2
      go_ret
      exact ⟨by rw [hF.out]; rfl, rfl⟩
theorem wrap_byte (b : UInt8) : wrap64 (b.toNat : Int) = b.toNat := by
  have := b.toNat_lt
  unfold wrap64
  omega
def SgRel (s : ByteArray) (W : World) (lv i : Value) (wr : World) : Prop :=
  ∃ k : Nat, i = .int .i64 k ∧ k ≤ s.size ∧ wr.ownsRow W.heap.size 3 1 lv k ((s.data.toList.take k).map fun b => Value.int .i64 b.toNat) ∧ Below W.heap.size W wr
theorem sg_more {s : ByteArray} {W wr w2 : World} {v v' : Value} {k : Nat} {x : Int} {o : Obj} (hk : k < s.size) (hx : x = (k : Int) + 1) (hB : Below W.heap.size W wr) (hv : ∀ g, v.ownBlock = some g → W.heap.size ≤ g)
    (ho : w2.ownsRow W.heap.size 3 1 v' (k + 1) ((s.data.toList.take k).map (fun b => Value.int .i64 b.toNat) ++ [.int .i64 (s[k]).toNat])) (hg : (wr.alloc o).grownBy w2 v.ownBlock) :
    SgRel s W v' (.int .i64 x) w2 := by
  subst hx
  refine ⟨k + 1, rfl, hk, ?_, (hB.alloc hB.size o).grown hg (by have := hB.size; simp; omega) hv⟩
  rw [List.take_add_one, List.getElem?_eq_getElem (by simpa using hk), List.map_append]
  exact ho
def SgPost (s : ByteArray) (w : World) (e : Ending) (w' : World) : Prop := ∃ v, e = .returned v ∧ w'.ownsRow w.heap.size 3 1 v s.size (s.data.toList.map fun b => Value.int .i64 b.toNat) ∧ Below w.heap.size w w'
set_option maxHeartbeats 1000000 in
set_option maxRecDepth 100000 in
theorem signs_any (s : ByteArray) (W : World) (hs : s.size ≤ 1000) : Calls Tryz.prog 72 #[.string s] W (SgPost s W) := by
  obtain ⟨i0, hi, hz0, hz1, hz2⟩ := info_parts Tryz.infoInt
  go_enter Tryz.func72, Tryz.ntmps72
  go_wp2
  go_loopw [3, 4] (SgRel s W) (fun _ i _ => s.size - (intOf i).toNat)
  case atStart => exact ⟨0, rfl, Nat.zero_le _, World.ownsRow_nil _ _ _ _, Below.refl _ _⟩
  case round =>
    obtain ⟨k, rfl, hk, ho, hB⟩ := hrel
    obtain ⟨vo, vc, rfl⟩ := own_slice ho
    have hvb := Lib.hid ho.lt
    have HO := Lib.hid ho
    clear ho
    by_cases hkn : k < s.size
    · go_wp2_with (at_builtin; refine wpList_append_own _ rfl _ _ 29 rfl W.heap.size 3 i0 (.int .i64 0) 1 8 Tryz.underlying29 hi hz0 hz1 hz2 rfl (by decide) _ _ _ rfl (HO.out.alloc _) ⟨wr.heap.size, 0, none⟩ 1 1 [.int .i64 (s[k]).toNat] rfl rfl ?c1 (by simp [Value.oneCell']) (by unfold maxLen; omega) (by omega) (by have := hB.size; simp; omega) ?_; rotate_left; intro v' w2 ho' hg _)
      case c1 => rw [wrap_byte]; exact int_cell _ _
      go_roundw
      case rel => exact sg_more hkn rfl hB (fun g e => (hvb.out g e).1) ho' hg
      case measure => exact sz_less rfl hkn
    · obtain rfl : k = s.size := by omega
      clear hk hkn
      go_wp2
      go_ret
      refine ⟨_, rfl, ?_, hB⟩
      have := HO.out
      rw [List.take_of_length_le (by simp)] at this
      exact this
end Go.Proofs.YtcnpkijjnbhagaaGreatDoor
