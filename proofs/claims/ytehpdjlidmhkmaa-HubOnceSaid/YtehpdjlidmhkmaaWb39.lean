/- Chapter 39: how messages and inboxes lie in memory; waiting. -/
import Derived.Test.YtehpdjlidmhkmaaWa39
namespace Go.Proofs.Ytehpdjlidmhkmaa
open Go.RowKit
attribute [local go_sem] Oper.semAt_some

def MsAt (w : World) (b q : Nat) (m : Msg) : Prop := w.cell? ⟨b, q, none⟩ = some (.int .i64 m.f) ∧ w.cell? ⟨b, q + 1, none⟩ = some (.int .i64 m.n) ∧ w.cell? ⟨b, q + 2, none⟩ = some (.int .i64 m.b)
def Msgs (w : World) (o : Option Addr) (l : List Msg) : Prop := ∀ i, i < l.length → ∃ b off, o = some ⟨b, off, none⟩ ∧ MsAt w b (off + i * 3) (getM l i)
def BxAt (w : World) (b q : Nat) (x : Bx) : Prop := ∃ (o : Option Addr) (cap : Nat), x.ws.length ≤ 6000000000000 ∧ x.ws.length ≤ cap ∧ Msgs w o x.ws ∧ w.cell? ⟨b, q, none⟩ = some (.int .i64 x.f) ∧ w.cell? ⟨b, q + 1, none⟩ = some (.int .i64 x.x) ∧ w.cell? ⟨b, q + 2, none⟩ = some (.slice o x.ws.length cap)
def Bxs (w : World) (o : Option Addr) (l : List Bx) : Prop := ∀ i, i < l.length → ∃ b off, o = some ⟨b, off, none⟩ ∧ BxAt w b (off + i * 3) (getB l i)

section
variable {w w' : World} {o : Option Addr}
theorem MsAt.later {b q : Nat} {m : Msg} (h : MsAt w b q m) (hb : Below w.heap.size w w') : MsAt w' b q m := ⟨cell_kept hb h.1, cell_kept hb h.2.1, cell_kept hb h.2.2⟩
theorem Msgs.later {l : List Msg} (h : Msgs w o l) (hb : Below w.heap.size w w') : Msgs w' o l := fun i hi => by
  obtain ⟨b, off, ho, hc⟩ := h i hi
  exact ⟨b, off, ho, hc.later hb⟩
theorem Msgs.nil : Msgs w o [] := fun _ hi => absurd hi (Nat.not_lt_zero _)
theorem BxAt.later {b q : Nat} {x : Bx} (h : BxAt w b q x) (hb : Below w.heap.size w w') : BxAt w' b q x := by
  obtain ⟨oo, cap, h1, h2, h3, h4, h5, h6⟩ := h
  exact ⟨oo, cap, h1, h2, h3.later hb, cell_kept hb h4, cell_kept hb h5, cell_kept hb h6⟩
theorem Bxs.later {l : List Bx} (h : Bxs w o l) (hb : Below w.heap.size w w') : Bxs w' o l := fun i hi => by
  obtain ⟨b, off, ho, hc⟩ := h i hi
  exact ⟨b, off, ho, hc.later hb⟩
theorem Bxs.nil : Bxs w o [] := fun _ hi => absurd hi (Nat.not_lt_zero _)
end

theorem getB_eq {l : List Bx} {i : Nat} (h : i < l.length) : getB l i = l[i] := by simp [getB, h]
theorem getM_eq {l : List Msg} {i : Nat} (h : i < l.length) : getM l i = l[i] := by simp [getM, h]
theorem many_take {l : List Bx} {k : Nat} (h : k < l.length) : many (l.take (k + 1)) = many (l.take k) + (getB l k).ws.length := by
  rw [List.take_succ_eq_append_getElem h, many_append, getB_eq h]
  simp [many]
theorem many_bound {w : World} {o : Option Addr} {l : List Bx} (h : Bxs w o l) : ∀ k, k ≤ l.length → many (l.take k) ≤ 6000000000000 * k
  | 0, _ => by simp [many]
  | k + 1, hk => by
    have h1 := many_bound h k (by omega)
    obtain ⟨_, _, _, _, _, h2, _⟩ := h k (by omega)
    rw [many_take (by omega)]
    omega

set_option maxHeartbeats 4000000 in
theorem waiting_any (o : Option Addr) (cap : Nat) (l : List Bx) (w : World) (hr : Bxs w o l) (hl : l.length ≤ 1000) : Calls Try.prog 37 #[.slice o l.length cap] w (Ret (.int .i64 (many l : Nat)) w) := by
  have HR := Lib.hid hr
  have HM := Lib.hid (many_bound hr)
  clear hr
  go_enter Try.func37, Try.ntmps37
  go_wp2
  go_loopw [3, 8] (fun s i wr => ∃ k z : Nat, k ≤ l.length ∧ i = .int .i64 k ∧ s = .int .i64 (z : Nat) ∧ z = many (l.take k) ∧ Below w.heap.size w wr) (fun _ i _ => l.length - (intOf i).toNat)
  case atStart => exact ⟨0, 0, Nat.zero_le _, rfl, rfl, rfl, Below.refl _ _⟩
  case round =>
    obtain ⟨k, z, hk, rfl, rfl, hz, hb⟩ := hrel
    have hzb : z ≤ 6000000000000 * 1000 := by have := HM.out k hk; omega
    have HZ := Lib.hid hz
    have HB := Lib.hid hb
    clear hz hb
    by_cases hlt : k < l.length
    · have HT := Lib.hid (many_take hlt)
      obtain ⟨b, off, hbo, oo, cp, hw1, _, _, c0, c1, c2⟩ := (HR.out.later HB.out) k hlt
      subst hbo
      obtain ⟨x, hx⟩ : ∃ x, getB l k = x := ⟨_, rfl⟩
      rw [hx] at c0 c1 c2 hw1 HT
      clear hx
      have y1 : (0 : Int) ≤ (k : Int) := by omega
      have y2 : (k : Int) < (l.length : Int) := by omega
      go_wp2
      go_roundw
      case rel => exact ⟨k + 1, z + x.ws.length, by omega, by go_num, by go_num, by rw [HT.out, HZ.out], below_alloc HB.out _⟩
      case measure => simp [intOf]; omega
    · obtain rfl : k = l.length := by omega
      have HE := Lib.hid (show z = many l by rw [HZ.out, List.take_of_length_le (Nat.le_refl _)])
      go_wp2
      go_ret
      exact ⟨by rw [← HE.out]; rfl, HB.out⟩
end Go.Proofs.Ytehpdjlidmhkmaa
