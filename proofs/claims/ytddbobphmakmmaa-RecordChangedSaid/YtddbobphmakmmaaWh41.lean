/- Chapter 41: changed, RecordChanged. -/
import Derived.Test.YtddbobphmakmmaaWf41
import Derived.Test.YtddbobphmakmmaaWo40
namespace Go.Proofs.Ytddbobphmakmmaa
open Go.RowKit
attribute [local go_sem] Oper.semAt_some

def chgC (r : Rc) (q : Nat) (x : Int) : Rc :=
  if q = 0 then { r with se := bits .xor .i64 r.se x }
  else if q = 1 then { r with ch := bits .xor .i64 r.ch x }
  else if q = 2 then { r with ca := bits .xor .i64 r.ca x }
  else if q = 3 then { r with ho := bits .xor .i64 r.ho x }
  else if q = 4 then { r with hs := bits .xor .i64 r.hs x }
  else if q = 5 then { r with fi := bits .xor .i64 r.fi x }
  else if q = 6 then { r with la := bits .xor .i64 r.la x }
  else if q = 7 then { r with en := bits .xor .i64 r.en x }
  else { r with am := bits .xor .i64 r.am x }
theorem chgC_0 (r : Rc) (x : Int) : chgC r 0 x = { r with se := bits .xor .i64 r.se x } := by unfold chgC; rw [if_pos rfl]
theorem chgC_1 (r : Rc) (x : Int) : chgC r 1 x = { r with ch := bits .xor .i64 r.ch x } := by unfold chgC; rw [if_neg (by decide), if_pos rfl]
theorem chgC_2 (r : Rc) (x : Int) : chgC r 2 x = { r with ca := bits .xor .i64 r.ca x } := by unfold chgC; rw [if_neg (by decide), if_neg (by decide), if_pos rfl]
theorem chgC_3 (r : Rc) (x : Int) : chgC r 3 x = { r with ho := bits .xor .i64 r.ho x } := by unfold chgC; rw [if_neg (by decide), if_neg (by decide), if_neg (by decide), if_pos rfl]
theorem chgC_4 (r : Rc) (x : Int) : chgC r 4 x = { r with hs := bits .xor .i64 r.hs x } := by unfold chgC; rw [if_neg (by decide), if_neg (by decide), if_neg (by decide), if_neg (by decide), if_pos rfl]
theorem chgC_5 (r : Rc) (x : Int) : chgC r 5 x = { r with fi := bits .xor .i64 r.fi x } := by unfold chgC; rw [if_neg (by decide), if_neg (by decide), if_neg (by decide), if_neg (by decide), if_neg (by decide), if_pos rfl]
theorem chgC_6 (r : Rc) (x : Int) : chgC r 6 x = { r with la := bits .xor .i64 r.la x } := by unfold chgC; rw [if_neg (by decide), if_neg (by decide), if_neg (by decide), if_neg (by decide), if_neg (by decide), if_neg (by decide), if_pos rfl]
theorem chgC_7 (r : Rc) (x : Int) : chgC r 7 x = { r with en := bits .xor .i64 r.en x } := by unfold chgC; rw [if_neg (by decide), if_neg (by decide), if_neg (by decide), if_neg (by decide), if_neg (by decide), if_neg (by decide), if_neg (by decide), if_pos rfl]
theorem chgC_8 (r : Rc) (x : Int) : chgC r 8 x = { r with am := bits .xor .i64 r.am x } := by unfold chgC; rw [if_neg (by decide), if_neg (by decide), if_neg (by decide), if_neg (by decide), if_neg (by decide), if_neg (by decide), if_neg (by decide), if_neg (by decide)]

theorem chgC_off (r : Rc) {q p y : Nat} (hq : q < 9) (hy : y < 256) : Off r (chgC r q (IntKind.i64.wrap ((dOf p y : Nat) : Int))) (p % 8) y := by
  have hd := dOf_lt (q := p) hy
  rcases (by omega : q = 0 ∨ q = 1 ∨ q = 2 ∨ q = 3 ∨ q = 4 ∨ q = 5 ∨ q = 6 ∨ q = 7 ∨ q = 8) with rfl | rfl | rfl | rfl | rfl | rfl | rfl | rfl | rfl
  · rw [chgC_0]; exact .inl ⟨.inl ⟨u64_xorI _ hd, rfl, rfl, rfl⟩, rfl, rfl, rfl, rfl, rfl⟩
  · rw [chgC_1]; exact .inl ⟨.inr (.inl ⟨rfl, u64_xorI _ hd, rfl, rfl⟩), rfl, rfl, rfl, rfl, rfl⟩
  · rw [chgC_2]; exact .inl ⟨.inr (.inr (.inl ⟨rfl, rfl, u64_xorI _ hd, rfl⟩)), rfl, rfl, rfl, rfl, rfl⟩
  · rw [chgC_3]; exact .inl ⟨.inr (.inr (.inr ⟨rfl, rfl, rfl, u64_xorI _ hd⟩)), rfl, rfl, rfl, rfl, rfl⟩
  · rw [chgC_4]; exact .inr (.inl ⟨⟨rfl, rfl, rfl, rfl⟩, .inl ⟨u64_xorI _ hd, rfl, rfl, rfl⟩, rfl⟩)
  · rw [chgC_5]; exact .inr (.inl ⟨⟨rfl, rfl, rfl, rfl⟩, .inr (.inl ⟨rfl, u64_xorI _ hd, rfl, rfl⟩), rfl⟩)
  · rw [chgC_6]; exact .inr (.inl ⟨⟨rfl, rfl, rfl, rfl⟩, .inr (.inr (.inl ⟨rfl, rfl, u64_xorI _ hd, rfl⟩)), rfl⟩)
  · rw [chgC_7]; exact .inr (.inl ⟨⟨rfl, rfl, rfl, rfl⟩, .inr (.inr (.inr ⟨rfl, rfl, rfl, u64_xorI _ hd⟩)), rfl⟩)
  · rw [chgC_8]; exact .inr (.inr ⟨⟨rfl, rfl, rfl, rfl⟩, ⟨rfl, rfl, rfl, rfl⟩, .inl ⟨u64_xorI _ hd, rfl, rfl, rfl⟩⟩)
theorem chgC_g0 (r : Rc) {q : Nat} (hq : q < 9) (x : Int) : (chgC r q x).g0 = r.g0 := by
  rcases (by omega : q = 0 ∨ q = 1 ∨ q = 2 ∨ q = 3 ∨ q = 4 ∨ q = 5 ∨ q = 6 ∨ q = 7 ∨ q = 8) with rfl | rfl | rfl | rfl | rfl | rfl | rfl | rfl | rfl
  · rw [chgC_0]
  · rw [chgC_1]
  · rw [chgC_2]
  · rw [chgC_3]
  · rw [chgC_4]
  · rw [chgC_5]
  · rw [chgC_6]
  · rw [chgC_7]
  · rw [chgC_8]
set_option maxRecDepth 100000 in
set_option maxHeartbeats 8000000 in
theorem changed_any (r : Rc) (which : Nat) (x : Int) (w : World) (hw : which < 256) : Calls Try.prog 18 #[recV r, .int .u8 (which : Nat), .int .i64 x] w (Ret (recV (chgC r (which % 9) x)) w) := by
  rcases (by omega : which % 9 = 0 ∨ which % 9 = 1 ∨ which % 9 = 2 ∨ which % 9 = 3 ∨ which % 9 = 4 ∨ which % 9 = 5 ∨ which % 9 = 6 ∨ which % 9 = 7 ∨ which % 9 = 8) with h | h | h | h | h | h | h | h | h
  · have h9 : (which : Int) % 9 = 0 := by omega
    rw [h, chgC_0]
    clear h
    go_enter Try.func18, Try.ntmps18
    go_wp2
    exact bodyPost_ret (v := .agg #[.int .i64 (bits .xor .i64 r.se x), .int .i64 r.ch, .int .i64 r.ca, .int .i64 r.ho, .int .i64 r.hs, .int .i64 r.fi, .int .i64 r.la, .int .i64 r.en, .int .i64 r.am, .int .u64 (r.g0 : Nat), .int .u64 (r.g1 : Nat), .int .u64 (r.g2 : Nat), .int .u64 (r.g3 : Nat)]) (by simp [results, Try.results18, go_sem]) rfl ⟨rfl, by go_grown⟩
  · have h9 : (which : Int) % 9 = 1 := by omega
    rw [h, chgC_1]
    clear h
    go_enter Try.func18, Try.ntmps18
    go_wp2
    exact bodyPost_ret (v := .agg #[.int .i64 r.se, .int .i64 (bits .xor .i64 r.ch x), .int .i64 r.ca, .int .i64 r.ho, .int .i64 r.hs, .int .i64 r.fi, .int .i64 r.la, .int .i64 r.en, .int .i64 r.am, .int .u64 (r.g0 : Nat), .int .u64 (r.g1 : Nat), .int .u64 (r.g2 : Nat), .int .u64 (r.g3 : Nat)]) (by simp [results, Try.results18, go_sem]) rfl ⟨rfl, by go_grown⟩
  · have h9 : (which : Int) % 9 = 2 := by omega
    rw [h, chgC_2]
    clear h
    go_enter Try.func18, Try.ntmps18
    go_wp2
    exact bodyPost_ret (v := .agg #[.int .i64 r.se, .int .i64 r.ch, .int .i64 (bits .xor .i64 r.ca x), .int .i64 r.ho, .int .i64 r.hs, .int .i64 r.fi, .int .i64 r.la, .int .i64 r.en, .int .i64 r.am, .int .u64 (r.g0 : Nat), .int .u64 (r.g1 : Nat), .int .u64 (r.g2 : Nat), .int .u64 (r.g3 : Nat)]) (by simp [results, Try.results18, go_sem]) rfl ⟨rfl, by go_grown⟩
  · have h9 : (which : Int) % 9 = 3 := by omega
    rw [h, chgC_3]
    clear h
    go_enter Try.func18, Try.ntmps18
    go_wp2
    exact bodyPost_ret (v := .agg #[.int .i64 r.se, .int .i64 r.ch, .int .i64 r.ca, .int .i64 (bits .xor .i64 r.ho x), .int .i64 r.hs, .int .i64 r.fi, .int .i64 r.la, .int .i64 r.en, .int .i64 r.am, .int .u64 (r.g0 : Nat), .int .u64 (r.g1 : Nat), .int .u64 (r.g2 : Nat), .int .u64 (r.g3 : Nat)]) (by simp [results, Try.results18, go_sem]) rfl ⟨rfl, by go_grown⟩
  · have h9 : (which : Int) % 9 = 4 := by omega
    rw [h, chgC_4]
    clear h
    go_enter Try.func18, Try.ntmps18
    go_wp2
    exact bodyPost_ret (v := .agg #[.int .i64 r.se, .int .i64 r.ch, .int .i64 r.ca, .int .i64 r.ho, .int .i64 (bits .xor .i64 r.hs x), .int .i64 r.fi, .int .i64 r.la, .int .i64 r.en, .int .i64 r.am, .int .u64 (r.g0 : Nat), .int .u64 (r.g1 : Nat), .int .u64 (r.g2 : Nat), .int .u64 (r.g3 : Nat)]) (by simp [results, Try.results18, go_sem]) rfl ⟨rfl, by go_grown⟩
  · have h9 : (which : Int) % 9 = 5 := by omega
    rw [h, chgC_5]
    clear h
    go_enter Try.func18, Try.ntmps18
    go_wp2
    exact bodyPost_ret (v := .agg #[.int .i64 r.se, .int .i64 r.ch, .int .i64 r.ca, .int .i64 r.ho, .int .i64 r.hs, .int .i64 (bits .xor .i64 r.fi x), .int .i64 r.la, .int .i64 r.en, .int .i64 r.am, .int .u64 (r.g0 : Nat), .int .u64 (r.g1 : Nat), .int .u64 (r.g2 : Nat), .int .u64 (r.g3 : Nat)]) (by simp [results, Try.results18, go_sem]) rfl ⟨rfl, by go_grown⟩
  · have h9 : (which : Int) % 9 = 6 := by omega
    rw [h, chgC_6]
    clear h
    go_enter Try.func18, Try.ntmps18
    go_wp2
    exact bodyPost_ret (v := .agg #[.int .i64 r.se, .int .i64 r.ch, .int .i64 r.ca, .int .i64 r.ho, .int .i64 r.hs, .int .i64 r.fi, .int .i64 (bits .xor .i64 r.la x), .int .i64 r.en, .int .i64 r.am, .int .u64 (r.g0 : Nat), .int .u64 (r.g1 : Nat), .int .u64 (r.g2 : Nat), .int .u64 (r.g3 : Nat)]) (by simp [results, Try.results18, go_sem]) rfl ⟨rfl, by go_grown⟩
  · have h9 : (which : Int) % 9 = 7 := by omega
    rw [h, chgC_7]
    clear h
    go_enter Try.func18, Try.ntmps18
    go_wp2
    exact bodyPost_ret (v := .agg #[.int .i64 r.se, .int .i64 r.ch, .int .i64 r.ca, .int .i64 r.ho, .int .i64 r.hs, .int .i64 r.fi, .int .i64 r.la, .int .i64 (bits .xor .i64 r.en x), .int .i64 r.am, .int .u64 (r.g0 : Nat), .int .u64 (r.g1 : Nat), .int .u64 (r.g2 : Nat), .int .u64 (r.g3 : Nat)]) (by simp [results, Try.results18, go_sem]) rfl ⟨rfl, by go_grown⟩
  · have h9 : (which : Int) % 9 = 8 := by omega
    rw [h, chgC_8]
    clear h
    go_enter Try.func18, Try.ntmps18
    go_wp2
    exact bodyPost_ret (v := .agg #[.int .i64 r.se, .int .i64 r.ch, .int .i64 r.ca, .int .i64 r.ho, .int .i64 r.hs, .int .i64 r.fi, .int .i64 r.la, .int .i64 r.en, .int .i64 (bits .xor .i64 r.am x), .int .u64 (r.g0 : Nat), .int .u64 (r.g1 : Nat), .int .u64 (r.g2 : Nat), .int .u64 (r.g3 : Nat)]) (by simp [results, Try.results18, go_sem]) rfl ⟨rfl, by go_grown⟩
end Go.Proofs.Ytddbobphmakmmaa
