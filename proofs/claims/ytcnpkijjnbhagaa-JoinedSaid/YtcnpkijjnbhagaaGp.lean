/- The functions guard.Parts and guard.Parts$1, walked. -/
import Derived.Test.YtcnpkijjnbhagaaEach
namespace Go.Proofs.Ytcnpkijjnbhagaa
open Go.RowKit

set_option maxHeartbeats 400000 in
theorem gparts_any (s : ByteArray) (w : World) :
    Calls Try.prog 6 #[.string s] w fun e w' => e = .returned (.func (.func 8) #[] #[.pointer (some ⟨w.heap.size, 0, none⟩)]) ∧ w.alloc (.cells #[.string s] 9) = w' := by
  have hmf : ∀ (fn : Fn) (first cap : Array Value) (w : World), (Instr.makeFunc fn first cap).run Try.prog w = .ok (.func fn first cap) w := fun _ _ _ _ => rfl
  go_enter Try.func6, Try.ntmps6
  go_wp2
  go_ret
  exact ⟨rfl, rfl⟩

/-- All that guard.Parts tells of. -/
def partsOf (s : ByteArray) : List Pt := if s.size ≤ 600 then eachF s.data.toList 0 0 0 0 else []

set_option maxHeartbeats 1000000 in
theorem gparts1_any (l T : Nat) (s : ByteArray) (m : Int) (J Jx : List Pt → World → Prop) (W : World)
    (hJ : Abides2 (OwnS W.heap.size) J) (hJx : Abides2 (OwnS W.heap.size) Jx) (hY : Rounds Try.prog (OwnS W.heap.size) l (partsOf s) J Jx) (hs : s.size ≤ maxLen)
    (hm : W.cell? ⟨0, 0, none⟩ = some (.int .i64 m)) (hT : W.cell? ⟨T, 0, none⟩ = some (.string s)) (h0 : J [] W) :
    Calls Try.prog 8 #[.func (.yield l) #[] #[], .pointer (some ⟨T, 0, none⟩)] W (EachPost (partsOf s) J Jx) := by
  unfold maxLen at hs
  by_cases hle : s.size ≤ 600
  · have he : partsOf s = eachF s.data.toList 0 0 0 0 := by unfold partsOf; rw [if_pos hle]
    have HE := Lib.hid (each_any l s m (partsOf s) J Jx W hJ hJx hY (by omega) hm h0 he)
    clear he
    go_enter Try.func8, Try.ntmps8
    go_wp2_with (go_at_call 9; refine HE.out.mono ?_; rintro e W1 ⟨rfl, hd⟩)
    go_end0
    exact ⟨rfl, hd⟩
  · have he : partsOf s = [] := by unfold partsOf; rw [if_neg hle]
    have HE := Lib.hid he
    clear he
    go_enter Try.func8, Try.ntmps8
    go_wp2
    go_end0
    exact ⟨rfl, .inl (by rw [HE.out]; exact h0)⟩
end Go.Proofs.Ytcnpkijjnbhagaa
