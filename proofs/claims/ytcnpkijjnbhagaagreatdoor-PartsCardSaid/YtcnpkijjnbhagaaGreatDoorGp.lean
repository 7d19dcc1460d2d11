/- The functions guard.Parts and guard.Parts$1, walked. -/
import Derived.Test.YtcnpkijjnbhagaaGreatDoorEach
namespace Go.Proofs.YtcnpkijjnbhagaaGreatDoor
open Go.RowKit

set_option maxHeartbeats 400000 in
theorem gparts_any (s : ByteArray) (w : World) :
    Calls Tryz.prog 53 #[.string s] w fun e w' => e = .returned (.func (.func 96) #[] #[.pointer (some ⟨w.heap.size, 0, none⟩)]) ∧ w.alloc (.cells #[.string s] 9) = w' := by
  have hmf : ∀ (fn : Fn) (first cap : Array Value) (w : World), (Instr.makeFunc fn first cap).run Tryz.prog w = .ok (.func fn first cap) w := fun _ _ _ _ => rfl
  go_enter Tryz.func53, Tryz.ntmps53
  go_wp2
  go_ret
  exact ⟨rfl, rfl⟩

/-- All that guard.Parts tells of. -/
def partsOf (s : ByteArray) : List Pt := if s.size ≤ 600 then eachF s.data.toList 0 0 0 0 else []

set_option maxHeartbeats 1000000 in
theorem gparts1_any (l T : Nat) (s : ByteArray) (m : Int) (J Jx : List Pt → World → Prop) (W : World)
    (hJ : Abides2 (OwnS W.heap.size) J) (hJx : Abides2 (OwnS W.heap.size) Jx) (hY : Rounds Tryz.prog (OwnS W.heap.size) l (partsOf s) J Jx) (hs : s.size ≤ maxLen)
    (hm : W.cell? ⟨8, 0, none⟩ = some (.int .i64 m)) (hT : W.cell? ⟨T, 0, none⟩ = some (.string s)) (h0 : J [] W) :
    Calls Tryz.prog 96 #[.func (.yield l) #[] #[], .pointer (some ⟨T, 0, none⟩)] W (EachPost (partsOf s) J Jx) := by
  unfold maxLen at hs
  by_cases hle : s.size ≤ 600
  · have he : partsOf s = eachF s.data.toList 0 0 0 0 := by unfold partsOf; rw [if_pos hle]
    have HE := Lib.hid (each_any l s m (partsOf s) J Jx W hJ hJx hY (by omega) hm h0 he)
    clear he
    go_enter Tryz.func96, Tryz.ntmps96
    go_wp2_with (go_at_call 97; refine HE.out.mono ?_; rintro e W1 ⟨rfl, hd⟩)
    go_end0
    exact ⟨rfl, hd⟩
  · have he : partsOf s = [] := by unfold partsOf; rw [if_neg hle]
    have HE := Lib.hid he
    clear he
    go_enter Tryz.func96, Tryz.ntmps96
    go_wp2
    go_end0
    exact ⟨rfl, .inl (by rw [HE.out]; exact h0)⟩
end Go.Proofs.YtcnpkijjnbhagaaGreatDoor
