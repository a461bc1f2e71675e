/- Chapter 40: row of the laws. -/
import Derived.Test.YtckbooccgdddbaaWi40
namespace Go.Proofs.Ytckbooccgdddbaa
open Go.RowKit
attribute [local go_sem] Oper.semAt_some

/-! ### Readings appended one by one -/
structure Tri where
  a : Int
  b : Int
  c : Int
def rowG (seed : Nat) (hs : seed < 18446744073709551616) : List Rd → List Tri → List Rd × Int
  | out, [] => (out, 0)
  | out, t :: r => if apErr seed out t.a t.b t.c = 0 then rowG seed hs (out ++ [apRd seed out t.a t.b t.c hs]) r else ([], apErr seed out t.a t.b t.c)

/-- The cells of a slice of triples. -/
def Tris (w : World) (o : Option Addr) (ts : List Tri) : Prop := ∀ i t, ts[i]? = some t → ∃ b off, o = some ⟨b, off, none⟩ ∧ w.cell? ⟨b, off + i * 3, none⟩ = some (.int .i64 t.a) ∧ w.cell? ⟨b, off + i * 3 + 1, none⟩ = some (.int .i64 t.b) ∧ w.cell? ⟨b, off + i * 3 + 2, none⟩ = some (.int .i64 t.c)
theorem Tris.later {w w' : World} {o : Option Addr} {ts : List Tri} (h : Tris w o ts) (hb : Below w.heap.size w w') : Tris w' o ts := fun i t ht => by
  obtain ⟨b, off, ho, h1, h2, h3⟩ := h i t ht
  exact ⟨b, off, ho, cell_kept hb h1, cell_kept hb h2, cell_kept hb h3⟩

theorem apErr_len {seed : Nat} {l : List Rd} {s m r : Int} (h : apErr seed l s m r = 0) : l.length ≤ 64 := by
  unfold apErr at h
  split at h
  · cases h
  · rename_i hc; exact chk_len hc

def RowOut (seed : Nat) (hs : seed < 18446744073709551616) (ts : List Tri) (w : World) (e : Ending) (w' : World) : Prop :=
  Below w.heap.size w w' ∧ ∃ o cap, e = .returned (.tuple #[.slice o (rowG seed hs [] ts).1.length cap, .int .i64 (rowG seed hs [] ts).2]) ∧ Rds w' o (rowG seed hs [] ts).1

set_option maxRecDepth 100000 in
set_option maxHeartbeats 4000000 in
theorem row_any (seed : Nat) (o : Option Addr) (cap : Nat) (ts : List Tri) (w : World) (hs : seed < 18446744073709551616) (ht : Tris w o ts) (hl : ts.length ≤ 1000) :
    Calls Try.prog 22 #[.int .u64 (seed : Nat), .slice o ts.length cap] w (RowOut seed hs ts w) := by
  have HT := Lib.hid ht
  clear ht
  obtain ⟨Q, hQ⟩ : ∃ Q, RowOut seed hs ts w = Q := ⟨_, rfl⟩
  rw [hQ]
  have HQ := Lib.hid hQ
  clear hQ
  go_enter Try.func22, Try.ntmps22
  go_wp2
  go_loopw [6, 13] (fun u i wr => ∃ (k : Nat) (oo : Option Addr) (cc : Nat) (out : List Rd), k ≤ ts.length ∧ i = .int .i64 k ∧ u = .slice oo out.length cc ∧ out.length ≤ 65 ∧ Rds wr oo out ∧ rowG seed hs [] ts = rowG seed hs out (ts.drop k) ∧ Below w.heap.size w wr) (fun _ i _ => ts.length - (intOf i).toNat)
  case atStart => exact ⟨0, none, 0, [], Nat.zero_le _, rfl, rfl, by simp, Rds.nil, rfl, Below.refl _ _⟩
  case round =>
    obtain ⟨k, oo, cc, out, hk, rfl, rfl, ho, hro, hG, hbel⟩ := hrel
    have HO := Lib.hid ho
    have HRO := Lib.hid hro
    have HG := Lib.hid hG
    have HBL := Lib.hid hbel
    clear hG hbel hro ho
    by_cases hlt : k < ts.length
    · obtain ⟨t, htt⟩ : ∃ t, ts[k]? = some t := ⟨_, List.getElem?_eq_getElem hlt⟩
      obtain ⟨b1, o1, h1, t0, t1, t2⟩ := (HT.out.later HBL.out) k t htt
      subst h1
      have HDR := Lib.hid (show ts.drop k = t :: ts.drop (k + 1) by
        rw [List.drop_eq_getElem_cons hlt]
        rw [List.getElem?_eq_getElem hlt] at htt
        rw [Option.some.inj htt])
      clear htt
      have y1 : (0 : Int) ≤ (k : Int) := by omega
      have y2 : (k : Int) < (ts.length : Int) := by omega
      go_wp2_with fail
      refine (Append_any seed oo cc out t.a t.b t.c _ hs (HRO.out.later (below_alloc0 wr _)) (by have := HO.out; omega)).mono ?_
      rintro e w1 ⟨hb1, ⟨hne, rfl⟩ | ⟨he0, b, cap2, hbb, _, rfl, hrd⟩⟩
      · obtain ⟨ev, hev⟩ : ∃ ev, apErr seed out t.a t.b t.c = ev := ⟨_, rfl⟩
        have hG2 : rowG seed hs [] ts = ([], ev) := by rw [HG.out, HDR.out, rowG, if_neg hne, hev]
        rw [hev] at hne ⊢
        have HG2 := Lib.hid hG2
        have hneb : (ev == 0) = false := by simpa using hne
        have HB1 := Lib.hid (below_step HBL.out (below_step (below_alloc0 wr _) hb1))
        clear hev hG2 hb1 t0 t1 t2
        go_wp2
        rw [← HQ.out]
        refine ⟨HB1.out, none, 0, ?_, ?_⟩
        · rw [HG2.out]; rfl
        · rw [HG2.out]; exact Rds.nil
      · have HE0 := Lib.hid he0
        have HRD := Lib.hid hrd
        have HB1 := Lib.hid (below_step HBL.out (below_step (below_alloc0 wr _) hb1))
        clear he0 hrd hb1 hbb t0 t1 t2
        go_wp2
        go_roundw
        case rel => exact ⟨k + 1, some ⟨b, 0, none⟩, cap2, out ++ [apRd seed out t.a t.b t.c hs], by omega, by go_num, by simp, by have := apErr_len HE0.out; simp; omega, HRD.out, by rw [HG.out, HDR.out, rowG, if_pos HE0.out], HB1.out⟩
        case measure => simp [intOf]; omega
    · obtain rfl : k = ts.length := by omega
      have HG2 := Lib.hid (show rowG seed hs [] ts = (out, 0) by rw [HG.out, List.drop_length]; rfl)
      go_wp2
      rw [← HQ.out]
      refine ⟨HBL.out, oo, cc, ?_, ?_⟩
      · rw [HG2.out]; rfl
      · rw [HG2.out]; exact HRO.out
end Go.Proofs.Ytckbooccgdddbaa
