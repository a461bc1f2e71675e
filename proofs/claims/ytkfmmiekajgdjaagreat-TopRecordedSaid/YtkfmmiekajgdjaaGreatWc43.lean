/- Package auditor: isKey. -/
import Derived.Test.YtkfmmiekajgdjaaGreatWb43
namespace Go.Proofs.YtkfmmiekajgdjaaGreat
open Go.RowKit
attribute [local go_sem] Oper.semAt_some

/-- The key words. -/
def keysA : List (List UInt8) := [[102, 101, 101, 100, 101, 114], [99, 97, 98, 108, 101], [111, 119, 110, 101, 114], [99, 111, 110, 116, 114, 97, 99, 116], [99, 104, 97, 114, 103, 101, 114], [98, 97, 121], [116, 97, 114, 105, 102, 102], [108, 105, 109, 105, 116], [110, 101, 117, 116, 114, 97, 108], [102, 117, 115, 101], [116, 104, 101, 114, 109, 97, 108], [102, 114, 111, 109], [97, 116], [112, 104, 97, 115, 101, 115], [97, 109, 112, 115], [102, 97, 108, 108, 98, 97, 99, 107], [99, 97, 114, 100], [114, 97, 110, 107], [115, 116, 97, 114, 116], [101, 110, 101, 114, 103, 121], [116, 105, 109, 101], [105, 100, 108, 101], [99, 97, 112], [116, 97, 120], [111, 110], [119, 111, 114, 107], [115, 97, 116, 117, 114, 100, 97, 121], [115, 117, 110, 100, 97, 121], [98, 101, 116, 119, 101, 101, 110], [112, 101, 114], [102, 114, 101, 101]]
def isKeyA (s : ByteArray) : Bool := keysA.any (fun k => s.toList == k)
theorem isKeyA_at {s : ByteArray} {i : Nat} {l : List UInt8} (h : keysA[i]? = some l) (e : (s.toList == l) = true) : isKeyA s = true := List.any_eq_true.2 ⟨l, List.mem_of_getElem? h, e⟩
set_option maxRecDepth 100000 in
set_option maxHeartbeats 16000000 in
theorem isKeyA_any (s : ByteArray) (w : World) : Calls Tryz.prog 97 #[.string s] w (fun e w' => e = .returned (.bool (isKeyA s)) ∧ w = w') := by
  obtain ⟨V, hV⟩ : ∃ V, isKeyA s = V := ⟨_, rfl⟩
  rw [hV]
  have HV := Lib.hid hV
  clear hV
  go_enter Tryz.func97, Tryz.ntmps97
  obtain ⟨b0, e0⟩ : ∃ b, (s.toList == [102, 101, 101, 100, 101, 114]) = b := ⟨_, rfl⟩
  cases b0 with
  | true =>
    obtain rfl : true = V := by rw [← HV.out, isKeyA_at (i := 0) rfl e0]
    clear HV
    go_wp2
    go_ret
    exact ⟨rfl, rfl⟩
  | false =>
  have H0 := Lib.hid e0
  obtain ⟨b1, e1⟩ : ∃ b, (s.toList == [99, 97, 98, 108, 101]) = b := ⟨_, rfl⟩
  cases b1 with
  | true =>
    obtain rfl : true = V := by rw [← HV.out, isKeyA_at (i := 1) rfl e1]
    clear HV
    go_wp2
    go_ret
    exact ⟨rfl, rfl⟩
  | false =>
  have H1 := Lib.hid e1
  obtain ⟨b2, e2⟩ : ∃ b, (s.toList == [111, 119, 110, 101, 114]) = b := ⟨_, rfl⟩
  cases b2 with
  | true =>
    obtain rfl : true = V := by rw [← HV.out, isKeyA_at (i := 2) rfl e2]
    clear HV
    go_wp2
    go_ret
    exact ⟨rfl, rfl⟩
  | false =>
  have H2 := Lib.hid e2
  obtain ⟨b3, e3⟩ : ∃ b, (s.toList == [99, 111, 110, 116, 114, 97, 99, 116]) = b := ⟨_, rfl⟩
  cases b3 with
  | true =>
    obtain rfl : true = V := by rw [← HV.out, isKeyA_at (i := 3) rfl e3]
    clear HV
    go_wp2
    go_ret
    exact ⟨rfl, rfl⟩
  | false =>
  have H3 := Lib.hid e3
  obtain ⟨b4, e4⟩ : ∃ b, (s.toList == [99, 104, 97, 114, 103, 101, 114]) = b := ⟨_, rfl⟩
  cases b4 with
  | true =>
    obtain rfl : true = V := by rw [← HV.out, isKeyA_at (i := 4) rfl e4]
    clear HV
    go_wp2
    go_ret
    exact ⟨rfl, rfl⟩
  | false =>
  have H4 := Lib.hid e4
  obtain ⟨b5, e5⟩ : ∃ b, (s.toList == [98, 97, 121]) = b := ⟨_, rfl⟩
  cases b5 with
  | true =>
    obtain rfl : true = V := by rw [← HV.out, isKeyA_at (i := 5) rfl e5]
    clear HV
    go_wp2
    go_ret
    exact ⟨rfl, rfl⟩
  | false =>
  have H5 := Lib.hid e5
  obtain ⟨b6, e6⟩ : ∃ b, (s.toList == [116, 97, 114, 105, 102, 102]) = b := ⟨_, rfl⟩
  cases b6 with
  | true =>
    obtain rfl : true = V := by rw [← HV.out, isKeyA_at (i := 6) rfl e6]
    clear HV
    go_wp2
    go_ret
    exact ⟨rfl, rfl⟩
  | false =>
  have H6 := Lib.hid e6
  go_upto_region 10 with (fail)
  clear e0 e1 e2 e3 e4 e5 e6
  obtain ⟨b7, e7⟩ : ∃ b, (s.toList == [108, 105, 109, 105, 116]) = b := ⟨_, rfl⟩
  cases b7 with
  | true =>
    obtain rfl : true = V := by rw [← HV.out, isKeyA_at (i := 7) rfl e7]
    clear HV
    go_wp2
    go_ret
    exact ⟨rfl, rfl⟩
  | false =>
  have H7 := Lib.hid e7
  obtain ⟨b8, e8⟩ : ∃ b, (s.toList == [110, 101, 117, 116, 114, 97, 108]) = b := ⟨_, rfl⟩
  cases b8 with
  | true =>
    obtain rfl : true = V := by rw [← HV.out, isKeyA_at (i := 8) rfl e8]
    clear HV
    go_wp2
    go_ret
    exact ⟨rfl, rfl⟩
  | false =>
  have H8 := Lib.hid e8
  obtain ⟨b9, e9⟩ : ∃ b, (s.toList == [102, 117, 115, 101]) = b := ⟨_, rfl⟩
  cases b9 with
  | true =>
    obtain rfl : true = V := by rw [← HV.out, isKeyA_at (i := 9) rfl e9]
    clear HV
    go_wp2
    go_ret
    exact ⟨rfl, rfl⟩
  | false =>
  have H9 := Lib.hid e9
  obtain ⟨b10, e10⟩ : ∃ b, (s.toList == [116, 104, 101, 114, 109, 97, 108]) = b := ⟨_, rfl⟩
  cases b10 with
  | true =>
    obtain rfl : true = V := by rw [← HV.out, isKeyA_at (i := 10) rfl e10]
    clear HV
    go_wp2
    go_ret
    exact ⟨rfl, rfl⟩
  | false =>
  have H10 := Lib.hid e10
  obtain ⟨b11, e11⟩ : ∃ b, (s.toList == [102, 114, 111, 109]) = b := ⟨_, rfl⟩
  cases b11 with
  | true =>
    obtain rfl : true = V := by rw [← HV.out, isKeyA_at (i := 11) rfl e11]
    clear HV
    go_wp2
    go_ret
    exact ⟨rfl, rfl⟩
  | false =>
  have H11 := Lib.hid e11
  obtain ⟨b12, e12⟩ : ∃ b, (s.toList == [97, 116]) = b := ⟨_, rfl⟩
  cases b12 with
  | true =>
    obtain rfl : true = V := by rw [← HV.out, isKeyA_at (i := 12) rfl e12]
    clear HV
    go_wp2
    go_ret
    exact ⟨rfl, rfl⟩
  | false =>
  have H12 := Lib.hid e12
  obtain ⟨b13, e13⟩ : ∃ b, (s.toList == [112, 104, 97, 115, 101, 115]) = b := ⟨_, rfl⟩
  cases b13 with
  | true =>
    obtain rfl : true = V := by rw [← HV.out, isKeyA_at (i := 13) rfl e13]
    clear HV
    go_wp2
    go_ret
    exact ⟨rfl, rfl⟩
  | false =>
  have H13 := Lib.hid e13
  obtain ⟨b14, e14⟩ : ∃ b, (s.toList == [97, 109, 112, 115]) = b := ⟨_, rfl⟩
  cases b14 with
  | true =>
    obtain rfl : true = V := by rw [← HV.out, isKeyA_at (i := 14) rfl e14]
    clear HV
    go_wp2
    go_ret
    exact ⟨rfl, rfl⟩
  | false =>
  have H14 := Lib.hid e14
  obtain ⟨b15, e15⟩ : ∃ b, (s.toList == [102, 97, 108, 108, 98, 97, 99, 107]) = b := ⟨_, rfl⟩
  cases b15 with
  | true =>
    obtain rfl : true = V := by rw [← HV.out, isKeyA_at (i := 15) rfl e15]
    clear HV
    go_wp2
    go_ret
    exact ⟨rfl, rfl⟩
  | false =>
  have H15 := Lib.hid e15
  obtain ⟨b16, e16⟩ : ∃ b, (s.toList == [99, 97, 114, 100]) = b := ⟨_, rfl⟩
  cases b16 with
  | true =>
    obtain rfl : true = V := by rw [← HV.out, isKeyA_at (i := 16) rfl e16]
    clear HV
    go_wp2
    go_ret
    exact ⟨rfl, rfl⟩
  | false =>
  have H16 := Lib.hid e16
  obtain ⟨b17, e17⟩ : ∃ b, (s.toList == [114, 97, 110, 107]) = b := ⟨_, rfl⟩
  cases b17 with
  | true =>
    obtain rfl : true = V := by rw [← HV.out, isKeyA_at (i := 17) rfl e17]
    clear HV
    go_wp2
    go_ret
    exact ⟨rfl, rfl⟩
  | false =>
  have H17 := Lib.hid e17
  go_upto_region 22 with (fail)
  clear e7 e8 e9 e10 e11 e12 e13 e14 e15 e16 e17
  obtain ⟨b18, e18⟩ : ∃ b, (s.toList == [115, 116, 97, 114, 116]) = b := ⟨_, rfl⟩
  cases b18 with
  | true =>
    obtain rfl : true = V := by rw [← HV.out, isKeyA_at (i := 18) rfl e18]
    clear HV
    go_wp2
    go_ret
    exact ⟨rfl, rfl⟩
  | false =>
  have H18 := Lib.hid e18
  obtain ⟨b19, e19⟩ : ∃ b, (s.toList == [101, 110, 101, 114, 103, 121]) = b := ⟨_, rfl⟩
  cases b19 with
  | true =>
    obtain rfl : true = V := by rw [← HV.out, isKeyA_at (i := 19) rfl e19]
    clear HV
    go_wp2
    go_ret
    exact ⟨rfl, rfl⟩
  | false =>
  have H19 := Lib.hid e19
  obtain ⟨b20, e20⟩ : ∃ b, (s.toList == [116, 105, 109, 101]) = b := ⟨_, rfl⟩
  cases b20 with
  | true =>
    obtain rfl : true = V := by rw [← HV.out, isKeyA_at (i := 20) rfl e20]
    clear HV
    go_wp2
    go_ret
    exact ⟨rfl, rfl⟩
  | false =>
  have H20 := Lib.hid e20
  obtain ⟨b21, e21⟩ : ∃ b, (s.toList == [105, 100, 108, 101]) = b := ⟨_, rfl⟩
  cases b21 with
  | true =>
    obtain rfl : true = V := by rw [← HV.out, isKeyA_at (i := 21) rfl e21]
    clear HV
    go_wp2
    go_ret
    exact ⟨rfl, rfl⟩
  | false =>
  have H21 := Lib.hid e21
  obtain ⟨b22, e22⟩ : ∃ b, (s.toList == [99, 97, 112]) = b := ⟨_, rfl⟩
  cases b22 with
  | true =>
    obtain rfl : true = V := by rw [← HV.out, isKeyA_at (i := 22) rfl e22]
    clear HV
    go_wp2
    go_ret
    exact ⟨rfl, rfl⟩
  | false =>
  have H22 := Lib.hid e22
  obtain ⟨b23, e23⟩ : ∃ b, (s.toList == [116, 97, 120]) = b := ⟨_, rfl⟩
  cases b23 with
  | true =>
    obtain rfl : true = V := by rw [← HV.out, isKeyA_at (i := 23) rfl e23]
    clear HV
    go_wp2
    go_ret
    exact ⟨rfl, rfl⟩
  | false =>
  have H23 := Lib.hid e23
  go_upto_region 29 with (fail)
  clear e18 e19 e20 e21 e22 e23
  obtain ⟨b24, e24⟩ : ∃ b, (s.toList == [111, 110]) = b := ⟨_, rfl⟩
  cases b24 with
  | true =>
    obtain rfl : true = V := by rw [← HV.out, isKeyA_at (i := 24) rfl e24]
    clear HV
    go_wp2
    go_ret
    exact ⟨rfl, rfl⟩
  | false =>
  have H24 := Lib.hid e24
  obtain ⟨b25, e25⟩ : ∃ b, (s.toList == [119, 111, 114, 107]) = b := ⟨_, rfl⟩
  cases b25 with
  | true =>
    obtain rfl : true = V := by rw [← HV.out, isKeyA_at (i := 25) rfl e25]
    clear HV
    go_wp2
    go_ret
    exact ⟨rfl, rfl⟩
  | false =>
  have H25 := Lib.hid e25
  obtain ⟨b26, e26⟩ : ∃ b, (s.toList == [115, 97, 116, 117, 114, 100, 97, 121]) = b := ⟨_, rfl⟩
  cases b26 with
  | true =>
    obtain rfl : true = V := by rw [← HV.out, isKeyA_at (i := 26) rfl e26]
    clear HV
    go_wp2
    go_ret
    exact ⟨rfl, rfl⟩
  | false =>
  have H26 := Lib.hid e26
  obtain ⟨b27, e27⟩ : ∃ b, (s.toList == [115, 117, 110, 100, 97, 121]) = b := ⟨_, rfl⟩
  cases b27 with
  | true =>
    obtain rfl : true = V := by rw [← HV.out, isKeyA_at (i := 27) rfl e27]
    clear HV
    go_wp2
    go_ret
    exact ⟨rfl, rfl⟩
  | false =>
  have H27 := Lib.hid e27
  obtain ⟨b28, e28⟩ : ∃ b, (s.toList == [98, 101, 116, 119, 101, 101, 110]) = b := ⟨_, rfl⟩
  cases b28 with
  | true =>
    obtain rfl : true = V := by rw [← HV.out, isKeyA_at (i := 28) rfl e28]
    clear HV
    go_wp2
    go_ret
    exact ⟨rfl, rfl⟩
  | false =>
  have H28 := Lib.hid e28
  obtain ⟨b29, e29⟩ : ∃ b, (s.toList == [112, 101, 114]) = b := ⟨_, rfl⟩
  cases b29 with
  | true =>
    obtain rfl : true = V := by rw [← HV.out, isKeyA_at (i := 29) rfl e29]
    clear HV
    go_wp2
    go_ret
    exact ⟨rfl, rfl⟩
  | false =>
  have H29 := Lib.hid e29
  obtain ⟨b30, e30⟩ : ∃ b, (s.toList == [102, 114, 101, 101]) = b := ⟨_, rfl⟩
  cases b30 with
  | true =>
    obtain rfl : true = V := by rw [← HV.out, isKeyA_at (i := 30) rfl e30]
    clear HV
    go_wp2
    go_ret
    exact ⟨rfl, rfl⟩
  | false =>
  have H30 := Lib.hid e30
  obtain rfl : false = V := by rw [← HV.out]; unfold isKeyA keysA; simp only [List.any_cons, List.any_nil, Bool.or_self, H0.out, H1.out, H2.out, H3.out, H4.out, H5.out, H6.out, H7.out, H8.out, H9.out, H10.out, H11.out, H12.out, H13.out, H14.out, H15.out, H16.out, H17.out, H18.out, H19.out, H20.out, H21.out, H22.out, H23.out, H24.out, H25.out, H26.out, H27.out, H28.out, H29.out, H30.out]
  go_wp2
  go_ret
  exact ⟨rfl, rfl⟩
end Go.Proofs.YtkfmmiekajgdjaaGreat