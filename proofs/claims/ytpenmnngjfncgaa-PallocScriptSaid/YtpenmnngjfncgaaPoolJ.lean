/- Law 7: awake; the nil forms; the walk of PallocNone. -/
import Derived.Test.YtpenmnngjfncgaaPoolI
namespace Go.Proofs.Ytpenmnngjfncgaa
open Go.RowKit Go.Proofs.FuMem Go.Proofs.FuClass Go.Proofs.FuPool
set_option maxRecDepth 100000
theorem aw1 : takeA (newPool 2) 2 = (2, 0) := by decide
theorem aw2 : takeA (takeP (newPool 2) 2) 0 = (10, 0) := by decide
theorem law7_awake (w : World) : Calls Try.prog 11 #[] w fun e w' => e = .returned (.bool true) ∧ Only [] w w' := by
  have HNE := Lib.hid (pool_New 2 w (by omega) (by omega))
  have HT1 := Lib.hid (fun g sb w h => pool_Take g sb (newPool 2) 2 w h (newPool_ok 2) (by omega))
  have HT2 := Lib.hid (fun g sb w h => pool_Take g sb (takeP (newPool 2) 2) 0 w h (takeP_ok (newPool_ok 2)) (by omega))
  rw [aw1] at HT1
  rw [aw2] at HT2
  generalize takeP (newPool 2) 2 = P1 at *
  generalize takeP P1 0 = P2 at *
  generalize newPool 2 = P0 at *
  go_enter Try.func11, Try.ntmps11
  go_wp2_with fail
  refine HNE.out.mono ?_
  rintro e w1 ⟨g, sb, rfl, p1, o1, hg, hs⟩
  have P1 := Lib.hid p1
  have O1 := Lib.hid o1
  clear p1 o1
  go_wp2_with fail
  refine (HT1.out g sb w1 P1.out).mono ?_
  rintro e w2 ⟨rfl, p2, o2⟩
  have P2 := Lib.hid p2
  have O2 := Lib.hid (O1.out.trans o2 (by intro b hb; simp at hb; omega))
  clear p2 o2
  go_wp2_with fail
  refine (HT2.out g sb w2 P2.out).mono ?_
  rintro e w3 ⟨rfl, p3, o3⟩
  have O3 := Lib.hid (O2.out.trans o3 (by intro b hb; simp at hb; omega))
  clear p3 o3
  go_wp2
  go_ret
  exact ⟨rfl, O3.out⟩
theorem pool_Slabs_nil (w : World) : Calls Try.prog 14 #[.pointer none] w fun e w' => e = .returned (.slice none 0 0) ∧ w = w' := by
  have HA := Lib.hid (pool_all_nil w)
  go_enter Try.func14, Try.ntmps14
  go_wp2_with fail
  refine (HA.out).mono ?_
  rintro e w' ⟨rfl, rfl⟩
  go_wp2
  go_loop [3, 9] (fun ov kv => ov = .slice none 0 0 ∧ kv = .int .i64 0) (fun _ _ => 0)
  case atStart => exact ⟨rfl, rfl⟩
  case round =>
    obtain ⟨rfl, rfl⟩ := hrel
    go_wp2
    go_ret
    exact ⟨rfl, rfl⟩
theorem pool_Free_nil (c : Int) (w : World) : Calls Try.prog 25 #[.pointer none, .int .i64 c] w fun e w' => e = .returned (.slice none 0 0) ∧ w = w' := by
  have HA := Lib.hid (pool_all_nil w)
  go_enter Try.func25, Try.ntmps25
  go_wp2_with fail
  refine (HA.out).mono ?_
  rintro e w' ⟨rfl, rfl⟩
  go_wp2
  go_loop [5, 13] (fun ov kv => ov = .slice none 0 0 ∧ kv = .int .i64 0) (fun _ _ => 0)
  case atStart => exact ⟨rfl, rfl⟩
  case round =>
    obtain ⟨rfl, rfl⟩ := hrel
    go_wp2
    go_ret
    exact ⟨rfl, rfl⟩
theorem pool_Taken_nil (w : World) : Calls Try.prog 13 #[.pointer none] w fun e w' => e = .returned (.slice none 0 0) ∧ w = w' := by
  have HA := Lib.hid (pool_all_nil w)
  go_enter Try.func13, Try.ntmps13
  go_wp2_with fail
  refine (HA.out).mono ?_
  rintro e w' ⟨rfl, rfl⟩
  go_wp2
  go_loop [3, 11] (fun ov kv => ov = .slice none 0 0 ∧ kv = .int .i64 0) (fun _ _ => 0)
  case atStart => exact ⟨rfl, rfl⟩
  case round =>
    obtain ⟨rfl, rfl⟩ := hrel
    go_wp2
    go_ret
    exact ⟨rfl, rfl⟩
theorem walk_PallocNone (line c : Int) (w : World) (_h1 : -9223372036854775808 ≤ line ∧ line ≤ 9223372036854775807) (hc : -9223372036854775808 ≤ c ∧ c ≤ 9223372036854775807) :
    Calls Try.prog 10 #[.int .i64 line, .int .i64 c] w fun e w' => e = .returned (.bool true) ∧ Only [] w w' := by
  have HT := Lib.hid (fun w => pool_Take_nil c w)
  have HOF := Lib.hid (fun w => pool_Of_nil line w)
  have HGI := Lib.hid (fun w => pool_Give_nil line w)
  have HMK := Lib.hid (fun w => pool_Mark_nil line c w hc)
  have HRO := Lib.hid (fun w => pool_Room_nil c w hc)
  have HFR := Lib.hid (fun w => pool_Free_nil c w)
  go_enter Try.func10, Try.ntmps10
  go_wp2_with fail
  refine (HT.out _).mono ?_
  rintro e w' ⟨rfl, rfl⟩
  go_wp2_with fail
  refine (HOF.out _).mono ?_
  rintro e w' ⟨rfl, rfl⟩
  go_wp2_with fail
  refine (HGI.out _).mono ?_
  rintro e w' ⟨rfl, rfl⟩
  go_wp2_with fail
  refine (HMK.out _).mono ?_
  rintro e w2 ⟨rfl, o2⟩
  have O2 := Lib.hid o2
  clear o2
  go_wp2_with fail
  refine (pool_Taken_nil _).mono ?_
  rintro e w' ⟨rfl, rfl⟩
  go_wp2_with fail
  refine (pool_Slabs_nil _).mono ?_
  rintro e w' ⟨rfl, rfl⟩
  go_wp2_with fail
  refine (HFR.out _).mono ?_
  rintro e w' ⟨rfl, rfl⟩
  go_wp2_with fail
  refine (HRO.out _).mono ?_
  rintro e w' ⟨rfl, rfl⟩
  go_wp2_with fail
  refine (law7_awake _).mono ?_
  rintro e w3 ⟨rfl, o3⟩
  have O3 := Lib.hid (O2.out.trans0 o3)
  clear o3
  go_wp2
  go_ret
  exact ⟨rfl, O3.out⟩
end Go.Proofs.Ytpenmnngjfncgaa
