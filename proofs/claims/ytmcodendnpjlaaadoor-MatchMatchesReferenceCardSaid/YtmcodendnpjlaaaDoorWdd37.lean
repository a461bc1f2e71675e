/- chargeparkref36.Distance, called. -/
import Derived.Test.YtmcodendnpjlaaaDoorWc36
import Derived.Deep.RegionWith
import Derived.Deep.QuietTactic
import Derived.BigQuiet
namespace Go.Proofs.YtmcodendnpjlaaaDoor
open Go.RowKit
theorem bs_getD_mem (s : ByteArray) (j : Nat) (hj : j < s.size) : (bs s).getD j 0 ∈ bs s := by
  have hl : j < (bs s).length := by rw [bs_length]; exact hj
  have e : (bs s).getD j 0 = (bs s)[j] := by simp [hl]
  rw [e]; exact List.getElem_mem _
theorem valid_all {s : ByteArray} (h : validS s = true) : ∀ c ∈ bs s, okN c = true := by
  simp only [validS, Bool.and_eq_true] at h
  exact List.all_eq_true.1 h.2
theorem valid_size {s : ByteArray} (h : validS s = true) : 1 ≤ s.size ∧ s.size ≤ 10 := by simp [validS] at h; omega


/-- A row of the table lies in block r; from place lo on it is filled. -/
structure RowS (w : World) (a b : List Nat) (m r i lo : Nat) : Prop where
  at_ : ∀ k, lo ≤ k → k ≤ m → w.cell? ⟨r, k, none⟩ = some (.int .i64 (S a b i k : Nat))
  there : ∀ k, k ≤ m → (w.cell? ⟨r, k, none⟩).isSome = true
  free : ∀ k, w.frozen? ⟨r, k, none⟩ = false
  lt : r < w.heap.size

section
variable {w w' : World} {a b : List Nat} {m r i lo : Nat}
theorem RowS.later (h : RowS w a b m r i lo) (hb : Below w.heap.size w w') : RowS w' a b m r i lo :=
  ⟨fun k h1 h2 => (hb.cell (p := ⟨r, k, none⟩) h.lt).trans (h.at_ k h1 h2), fun k hk => by rw [hb.cell (p := ⟨r, k, none⟩) h.lt]; exact h.there k hk,
   fun k => (hb.frozen (p := ⟨r, k, none⟩) h.lt).trans (h.free k), Nat.lt_of_lt_of_le h.lt hb.size⟩
theorem RowS.other (h : RowS w a b m r i lo) {p : Addr} (hp : r ≠ p.block) (u : Value) : RowS (w.setCell p u) a b m r i lo :=
  ⟨fun k h1 h2 => (World.cell?_setCell_other w p ⟨r, k, none⟩ u (fun e => hp (by rw [e]))).trans (h.at_ k h1 h2),
   fun k hk => by rw [World.cell?_setCell_other w p ⟨r, k, none⟩ u (fun e => hp (by rw [e]))]; exact h.there k hk,
   fun k => by rw [World.frozen?_setCell]; exact h.free k, by simpa [World.setCell] using h.lt⟩
theorem RowS.set (h : RowS w a b m r i (lo + 1)) (hl : lo ≤ m) {x : Nat} (hx : S a b i lo = x) : RowS (w.setCell ⟨r, lo, none⟩ (.int .i64 (x : Int))) a b m r i lo := by
  refine ⟨fun k h1 h2 => ?_, fun k hk => ?_, fun k => by rw [World.frozen?_setCell]; exact h.free k, by simpa [World.setCell] using h.lt⟩
  · by_cases e : k = lo
    · subst e
      rw [hx]
      exact World.cell?_setCell_same' w ⟨r, k, none⟩ _ (h.there k hl)
    · rw [World.cell?_setCell_other w ⟨r, lo, none⟩ ⟨r, k, none⟩ _ (fun e' => e (congrArg Addr.off e').symm)]
      exact h.at_ k (by omega) h2
  · by_cases e : k = lo
    · subst e
      rw [World.cell?_setCell_same' w ⟨r, k, none⟩ _ (h.there k hl)]; rfl
    · rw [World.cell?_setCell_other w ⟨r, lo, none⟩ ⟨r, k, none⟩ _ (fun e' => e (congrArg Addr.off e').symm)]
      exact h.there k hk
end

/-- The cells of the table itself. -/
structure TabS (w : World) (g n : Nat) : Prop where
  there : ∀ k, k ≤ n → (w.cell? ⟨g, k, none⟩).isSome = true
  free : ∀ k, w.frozen? ⟨g, k, none⟩ = false
  lt : g < w.heap.size
theorem TabS.later {w w' : World} {g n : Nat} (h : TabS w g n) (hb : Below w.heap.size w w') : TabS w' g n :=
  ⟨fun k hk => by rw [hb.cell (p := ⟨g, k, none⟩) h.lt]; exact h.there k hk, fun k => (hb.frozen (p := ⟨g, k, none⟩) h.lt).trans (h.free k), Nat.lt_of_lt_of_le h.lt hb.size⟩
theorem isSome_set {w : World} {q : Addr} (h : (w.cell? q).isSome = true) (p : Addr) (u : Value) : ((w.setCell p u).cell? q).isSome = true := by
  by_cases e : p = q
  · subst e; rw [World.cell?_setCell_same' w p u h]; rfl
  · rw [World.cell?_setCell_other w p q u e]; exact h
theorem TabS.set {w : World} {g n : Nat} (h : TabS w g n) (p : Addr) (u : Value) : TabS (w.setCell p u) g n :=
  ⟨fun k hk => isSome_set (h.there k hk) p u, fun k => by rw [World.frozen?_setCell]; exact h.free k, by simpa [World.setCell] using h.lt⟩

/-- Row t of the table. -/
def Has (w : World) (a b : List Nat) (m g t : Nat) : Prop := ∃ r, w.cell? ⟨g, t, none⟩ = some (.slice (some ⟨r, 0, none⟩) (m + 1) (m + 1)) ∧ RowS w a b m r t 0 ∧ r ≠ g

theorem made_cell (w : World) (t : TypeId) (z : Value) (n k : Nat) (hk : k < n) : (w.alloc (.cells (madeCells #[z] n) t)).cell? ⟨w.heap.size, k, none⟩ = some z := by
  have h := heap_alloc_new w (.cells (madeCells #[z] n) t)
  have hm : (madeCells #[z] n)[k]? = some z := by
    simp [madeCells, hk, Nat.mod_one]
  unfold World.cell?
  simp only [h]
  exact hm
theorem made_free (w : World) (t : TypeId) (cs : Array Value) (k : Nat) : (w.alloc (.cells cs t)).frozen? ⟨w.heap.size, k, none⟩ = false := by
  have h := heap_alloc_new w (.cells cs t)
  unfold World.frozen?
  simp only [h]
  simp

theorem info3 : (Tryd.prog.info? 3).map (fun i => (i.zero, i.size, i.bytes)) = some (some (.int .i64 0), 1, 8) := by kernel_rfl
theorem info40 : (Tryd.prog.info? 36).map (fun i => (i.zero, i.size, i.bytes)) = some (some (.slice none 0 0), 1, 24) := by kernel_rfl

theorem mk_ints (n : Nat) (hn : n ≤ 100) (w : World) : (Instr.makeSlice 36 (.int .i64 ((n : Int) + 1)) (.int .i64 ((n : Int) + 1))).run Tryd.prog w =
    .ok (.slice (some ⟨w.heap.size, 0, none⟩) (n + 1) (n + 1)) (w.alloc (.cells (madeCells #[Value.int .i64 0] (n + 1)) 3)) := by
  obtain ⟨i, hi, hz0, hz1, hz2⟩ := info_parts info3
  rw [run_make w 36 3 i (.int .i64 0) Tryd.underlying36 hi hz0 .i64 .i64 _ _ (by omega) (Int.le_refl _) (by rw [hz2]; omega) (by omega), hz1, show ((n : Int) + 1).toNat = n + 1 by omega, Nat.mul_one]
  rfl
theorem mk_rows (n : Nat) (hn : n ≤ 100) (w : World) : (Instr.makeSlice 69 (.int .i64 ((n : Int) + 1)) (.int .i64 ((n : Int) + 1))).run Tryd.prog w =
    .ok (.slice (some ⟨w.heap.size, 0, none⟩) (n + 1) (n + 1)) (w.alloc (.cells (madeCells #[Value.slice none 0 0] (n + 1)) 36)) := by
  obtain ⟨i, hi, hz0, hz1, hz2⟩ := info_parts info40
  rw [run_make w 69 36 i (.slice none 0 0) Tryd.underlying69 hi hz0 .i64 .i64 _ _ (by omega) (Int.le_refl _) (by rw [hz2]; omega) (by omega), hz1, show ((n : Int) + 1).toNat = n + 1 by omega, Nat.mul_one]
  rfl

set_option maxRecDepth 100000 in
set_option maxHeartbeats 2000000 in
theorem RDistance_walk (a b : ByteArray) (w : World) (ha : validS a = true) (hb : validS b = true) :
    Calls Tryd.prog 30 #[.string a, .string b] w (Ret (.tuple #[.int .i64 (E (bs a) (bs b) : Nat), .int .i64 0]) w) := by
  have HA := Lib.hid ha
  have HB := Lib.hid hb
  obtain ⟨hla1, hla2⟩ := valid_size ha
  obtain ⟨hlb1, hlb2⟩ := valid_size hb
  clear ha hb
  have hmk := mk_rows a.size (by omega)
  go_enter Tryd.func30, Tryd.ntmps30
  go_wp2_with fail
  refine (RValid_any a w (by omega)).mono ?_
  rintro e w1 ⟨rfl, hb1⟩
  rw [HA.out]
  go_wp2_with fail
  refine (RValid_any b w1 (by omega)).mono ?_
  rintro e w2 ⟨rfl, hb2⟩
  rw [HB.out]
  have HB2 := Lib.hid (below_step hb1 hb2)
  clear hb1 hb2
  go_wp2
  go_loopw [9] (fun u wr => ∃ (t : Nat) (z : Int), z = (t : Int) - 1 ∧ t ≤ a.size + 1 ∧ u = .int .i64 z ∧ TabS wr w2.heap.size a.size ∧ (t ≤ a.size → Has wr (bs a) (bs b) b.size w2.heap.size t) ∧ Below w.heap.size w wr) (fun u _ => (intOf u + 1).toNat)
  case atStart =>
    refine ⟨a.size + 1, _, by omega, Nat.le_refl _, rfl, ⟨fun k hk => ?_, fun k => made_free _ _ _ _, by simp⟩, fun h => absurd h (by omega), below_alloc HB2.out _⟩
    rw [made_cell w2 _ _ _ _ (by omega)]; rfl
  case round =>
    obtain ⟨t, z, hz, ht, rfl, hT, hH, hb⟩ := hrel
    cases t with
    | zero =>
      obtain rfl : z = -1 := by omega
      obtain ⟨r, hc, hr, hrg⟩ := hH (by omega)
      have hc0 := hr.at_ 0 (Nat.le_refl _) (by omega)
      have HS := Lib.hid (S_whole (bs a) (bs b))
      have HBB := Lib.hid hb
      have y0 : (0 : Int) < (b.size : Int) + 1 := by omega
      have y1 : (0 : Int) < (a.size : Int) + 1 := by omega
      clear hT hH hb hr hz
      go_wp2
      go_ret2
      exact ⟨by rw [← HS.out]; rfl, HBB.out⟩
    | succ i =>
      obtain rfl : z = (i : Int) := by omega
      have hmr := mk_ints b.size (by omega)
      have hil : i ≤ a.size := by omega
      have y0 : (i : Int) < (a.size : Int) + 1 := by omega
      obtain ⟨wi, rfl⟩ : ∃ wi : World, wi = wr := ⟨_, rfl⟩
      have hgl := hT.lt
      obtain ⟨W1, hW1⟩ : ∃ W1, W1 = wi.alloc (.cells (madeCells #[Value.int .i64 0] (b.size + 1)) 3) := ⟨_, rfl⟩
      have hbW : Below wi.heap.size wi W1 := by rw [hW1]; exact below_alloc (Below.refl _ _) _
      have hT1 := hT.later hbW
      obtain ⟨v0, hc0⟩ := Option.isSome_iff_exists.1 (hT1.there i hil)
      have hf0 := hT1.free i
      have hR1 : RowS W1 (bs a) (bs b) b.size wi.heap.size i (b.size + 1) := by
        rw [hW1]
        exact ⟨fun k h1 h2 => absurd h1 (by omega), fun k hk => by rw [made_cell wi _ _ _ _ (by omega)]; rfl, fun k => made_free _ _ _ _, by simp⟩
      have HT1 := Lib.hid hT1
      have HR1 := Lib.hid hR1
      have HH := Lib.hid hH
      have HBW := Lib.hid hbW
      have HBB := Lib.hid hb
      have hsz : wi.heap.size < W1.heap.size := hR1.lt
      have hmr' := hmr wi
      rw [← hW1] at hmr'
      clear hT hH hb hT1 hR1 hbW hz hmk hmr hW1
      go_wp2
      have hgq : w2.heap.size < wi.heap.size := hgl
      go_loopw [10] (fun u wr => ∃ (s : Nat) (z : Int), z = (s : Int) - 1 ∧ s ≤ b.size + 1 ∧ u = .int .i64 z ∧ TabS wr w2.heap.size a.size ∧ wr.cell? ⟨w2.heap.size, i, none⟩ = some (.slice (some ⟨wi.heap.size, 0, none⟩) (b.size + 1) (b.size + 1)) ∧ RowS wr (bs a) (bs b) b.size wi.heap.size i s ∧
          (i < a.size → ∃ r, wr.cell? ⟨w2.heap.size, i + 1, none⟩ = some (.slice (some ⟨r, 0, none⟩) (b.size + 1) (b.size + 1)) ∧ RowS wr (bs a) (bs b) b.size r (i + 1) 0 ∧ r ≠ w2.heap.size ∧ r ≠ wi.heap.size) ∧ Below w.heap.size w wr) (fun u _ => (intOf u + 1).toNat)
      case atStart =>
        have HT2 := HT1.out
        have HR2 := HR1.out
        refine ⟨b.size + 1, _, by omega, Nat.le_refl _, rfl, HT2.set _ _, World.cell?_setCell_same _ _ _ hc0, HR2.other (by simp; omega) _, fun hi => ?_, ?_⟩
        · obtain ⟨r, hc, hr, hrg⟩ := HH.out (by omega)
          have hlt := hr.lt
          refine ⟨r, ?_, (hr.later HBW.out).other (by simpa using hrg) _, hrg, by omega⟩
          rw [World.cell?_setCell_other _ _ _ _ (fun e => by have := congrArg Addr.off e; simp at this)]
          exact (HBW.out.cell (p := ⟨w2.heap.size, i + 1, none⟩) (by show w2.heap.size < _; omega)).trans hc
        · exact (below_step HBB.out HBW.out).setCell (by have := HB2.out.size; show _ ≤ w2.heap.size; omega) _
      case round =>
        obtain ⟨s, z, hz, hs, rfl, hT, hcI, hR, hN, hb⟩ := hrel
        cases s with
        | zero =>
          obtain rfl : z = -1 := by omega
          have HT2 := Lib.hid hT
          have HCI := Lib.hid hcI
          have HR2 := Lib.hid hR
          have HB3 := Lib.hid hb
          clear hT hcI hR hN hb hz
          go_wp2
          go_roundw
          case rel =>
            exact ⟨i, _, rfl, by omega, rfl, HT2.out, fun _ => ⟨wi.heap.size, HCI.out, HR2.out, by omega⟩, HB3.out⟩
          case measure => simp [intOf]
        | succ k =>
          obtain rfl : z = (k : Int) := by omega
          have hkl : k ≤ b.size := by omega
          have y1 : (k : Int) < (b.size : Int) + 1 := by omega
          obtain ⟨v1, hc1⟩ := Option.isSome_iff_exists.1 (hR.there k hkl)
          have hf1 := hR.free k
          have HT2 := Lib.hid hT
          have HR2 := Lib.hid hR
          have HN := Lib.hid hN
          have HB3 := Lib.hid hb
          have HCI := Lib.hid hcI
          by_cases hia : i = a.size
          · have HS := Lib.hid (show S (bs a) (bs b) i k = 2 * (b.size - k) by have := S_last (bs a) (bs b) k; rwa [bs_length, bs_length, ← hia] at this)
            have e1 : ((i : Int) == (a.size : Int)) = true := by simp [hia]
            have HIA := Lib.hid hia
            clear hT hR hN hb hz hia
            go_wp2
            go_roundw
            case rel =>
              refine ⟨k, _, rfl, by omega, rfl, HT2.out.set _ _, ?_, ?_, fun h => absurd h (by have := HIA.out; omega), HB3.out.setCell (by have := HBB.out.size; show _ ≤ wi.heap.size; omega) _⟩
              · rw [World.cell?_setCell_other _ _ _ _ (fun e => by have := congrArg Addr.block e; simp at this; omega)]; exact HCI.out
              · have := HR2.out.set hkl HS.out
                rw [show ((2 * (b.size - k) : Nat) : Int) = 2 * ((b.size : Int) - (k : Int)) by omega] at this
                exact this
            case measure => simp [intOf]
          · have e1 : ((i : Int) == (a.size : Int)) = false := by simp; omega
            by_cases hkb : k = b.size
            · have HS := Lib.hid (show S (bs a) (bs b) i k = 2 * (a.size - i) by have := S_end (bs a) (bs b) i; rwa [bs_length, bs_length, ← hkb] at this)
              have e2 : ((k : Int) == (b.size : Int)) = true := by simp [hkb]
              have HKB := Lib.hid hkb
              clear hT hR hN hb hz hkb
              go_wp2
              go_roundw
              case rel =>
                refine ⟨k, _, rfl, by omega, rfl, HT2.out.set _ _, ?_, ?_, fun h => ?_, HB3.out.setCell (by have := HBB.out.size; show _ ≤ wi.heap.size; omega) _⟩
                · rw [World.cell?_setCell_other _ _ _ _ (fun e => by have := congrArg Addr.block e; simp at this; omega)]; exact HCI.out
                · have := HR2.out.set hkl HS.out
                  rw [show ((2 * (a.size - i) : Nat) : Int) = 2 * ((a.size : Int) - (i : Int)) by omega] at this
                  exact this
                · obtain ⟨r, n1, n2, n3, n4⟩ := HN.out h
                  refine ⟨r, ?_, n2.other (by simpa using n4) _, n3, n4⟩
                  rw [World.cell?_setCell_other _ _ _ _ (fun e => by have := congrArg Addr.block e; simp at this; omega)]; exact n1
              case measure => simp [intOf]
            · have e2 : ((k : Int) == (b.size : Int)) = false := by simp; omega
              obtain ⟨r, n1, n2, n3, n4⟩ := hN (by omega)
              have HN1 := Lib.hid n1
              have HN2 := Lib.hid n2
              have hia' : i < a.size := by omega
              have hkb' : k < b.size := by omega
              obtain ⟨p, hp⟩ : ∃ p : Nat, S (bs a) (bs b) (i + 1) (k + 1) = p := ⟨_, rfl⟩
              obtain ⟨u, hu⟩ : ∃ u : Nat, S (bs a) (bs b) (i + 1) k = u := ⟨_, rfl⟩
              obtain ⟨v, hv⟩ : ∃ v : Nat, S (bs a) (bs b) i (k + 1) = v := ⟨_, rfl⟩
              obtain ⟨c, hcc⟩ : ∃ c : Nat, rcost (a[i]'hia').toNat (b[k]'hkb').toNat = c := ⟨_, rfl⟩
              have bp : p ≤ 40 := by rw [← hp]; have := S_le (bs a) (bs b) (i + 1) (k + 1); rw [bs_length, bs_length] at this; omega
              have bu : u ≤ 40 := by rw [← hu]; have := S_le (bs a) (bs b) (i + 1) k; rw [bs_length, bs_length] at this; omega
              have bv : v ≤ 40 := by rw [← hv]; have := S_le (bs a) (bs b) i (k + 1); rw [bs_length, bs_length] at this; omega
              have bc : c ≤ 2 := by rw [← hcc]; unfold rcost; split <;> (try split) <;> omega
              have hst : S (bs a) (bs b) i k = min (p + c) (min (u + 2) (v + 2)) := by
                rw [S_step (bs a) (bs b) i k (by rw [bs_length]; exact hia') (by rw [bs_length]; exact hkb'), hp, hu, hv, bs_getD a i hia', bs_getD b k hkb', ← rcost_rc _ _ (by
                  have := valid_all HB.out _ (bs_getD_mem b k hkb')
                  rw [bs_getD b k hkb'] at this
                  exact okN_pos this), hcc]
              have q1 : ∀ w', Below wr.heap.size wr w' → w'.cell? ⟨w2.heap.size, i + 1, none⟩ = some (.slice (some ⟨r, 0, none⟩) (b.size + 1) (b.size + 1)) := fun w' h => (h.cell (p := ⟨w2.heap.size, i + 1, none⟩) HT2.out.lt).trans n1
              have q2 : ∀ w', Below wr.heap.size wr w' → w'.cell? ⟨r, k + 1, none⟩ = some (.int .i64 (p : Int)) := fun w' h => by rw [← hp]; exact (n2.later h).at_ (k + 1) (Nat.zero_le _) (by omega)
              have q3 : ∀ w', Below wr.heap.size wr w' → w'.cell? ⟨r, k, none⟩ = some (.int .i64 (u : Int)) := fun w' h => by rw [← hu]; exact (n2.later h).at_ k (Nat.zero_le _) (by omega)
              have q4 : ∀ w', Below wr.heap.size wr w' → w'.cell? ⟨w2.heap.size, i, none⟩ = some (.slice (some ⟨wi.heap.size, 0, none⟩) (b.size + 1) (b.size + 1)) := fun w' h => (h.cell (p := ⟨w2.heap.size, i, none⟩) HT2.out.lt).trans hcI
              have q5 : ∀ w', Below wr.heap.size wr w' → w'.cell? ⟨wi.heap.size, k + 1, none⟩ = some (.int .i64 (v : Int)) := fun w' h => by rw [← hv]; exact (HR2.out.later h).at_ (k + 1) (by omega) (by omega)
              have Q1 := Lib.hid q1; have Q2 := Lib.hid q2; have Q3 := Lib.hid q3; have Q4 := Lib.hid q4; have Q5 := Lib.hid q5
              have HST := Lib.hid hst
              have HCC := Lib.hid hcc
              clear hT hR hN hb hz n1 n2 hp hu hv hcc hst q3 q4 q5 hcI hc1 hf1
              go_wp2
              refine wp_region_inv 18 (fun w' => Below wr.heap.size wr w') mixed (by kernel_rfl) (Below.refl _ _).drew ?_
              simp only [List.take_succ_cons, List.drop_succ_cons, List.drop_nil, List.take_nil]
              intro R hR
              have HR := Lib.hid hR
              clear hR
              have x1 : IntKind.i64.wrap ((i : Int) + 1) = (i : Int) + 1 := IntWalk.i64_in _ (by omega)
              have x2 : IntKind.i64.wrap ((k : Int) + 1) = (k : Int) + 1 := IntWalk.i64_in _ (by omega)
              have x3 : IntKind.i64.wrap ((p : Int) + (c : Int)) = (p : Int) + (c : Int) := IntWalk.i64_in _ (by omega)
              have y4 : ((i : Int) + 1).toNat = i + 1 := by omega
              have y5 : ((k : Int) + 1).toNat = k + 1 := by omega
              have y6 : (i : Int) + 1 < (a.size : Int) + 1 := by omega
              have y7 : (k : Int) + 1 < (b.size : Int) + 1 := by omega
              have y8 : 0 ≤ (i : Int) + 1 := by omega
              have y9 : 0 ≤ (k : Int) + 1 := by omega
              have y10 : (i : Int) < (a.size : Int) := by omega
              have y11 : (k : Int) < (b.size : Int) := by omega
              repeat (first
                | ((with_reducible refine wpInv_move ?_ ?_); exact rfl; simp only [Act.put, List.setIfInBounds_toArray, List.set_cons_zero, List.set_cons_succ])
                | (apply wpInv_call 37 #[.int .u8 ((a[i]'hia').toNat : Nat), .int .u8 ((b[k]'hkb').toNat : Nat)] rfl (v := .int .i64 (c : Int))
                   · (intro w'; go_simp)
                   · exact fun w' hw' => (Cost_any _ _ w').mono fun e w'' hh => ⟨by rw [← HCC.out]; exact hh.1, below_step hw' hh.2⟩
                   simp only [Act.put, List.setIfInBounds_toArray, List.set_cons_zero, List.set_cons_succ])
                | (apply wpInv_val rfl
                   · (intro w' hw'; go_simp; with_reducible rfl)
                   simp only [Act.put, List.setIfInBounds_toArray, List.set_cons_zero, List.set_cons_succ]))
              refine wpInv_nil (HR.out _ (fun w3 hw3 => ?_))
              clear q1 q2 x1 x2 x3 y4 y5 HR R
              rcases Int.lt_or_le ((u : Int) + 2) ((p : Int) + (c : Int)) with hm | hm
              all_goals
                have c1 := Q1.out w3 hw3
                have c3 := Q3.out w3 hw3
                have HW3 := Lib.hid hw3
                clear hw3
                go_wp2
                clear c1 c3
                refine wp_region_inv 17 (fun w' => Below w3.heap.size w3 w') mixed (by kernel_rfl) (Below.refl _ _).drew ?_
                simp only [List.take_succ_cons, List.take_zero, List.drop_succ_cons, List.drop_zero]
                intro R hR
                have HR := Lib.hid hR
                clear hR
                have q4 : ∀ w', Below w3.heap.size w3 w' → w'.cell? ⟨w2.heap.size, i, none⟩ = some (.slice (some ⟨wi.heap.size, 0, none⟩) (b.size + 1) (b.size + 1)) := fun w' h => Q4.out w' (below_step HW3.out h)
                have q5 : ∀ w', Below w3.heap.size w3 w' → w'.cell? ⟨wi.heap.size, k + 1, none⟩ = some (.int .i64 (v : Int)) := fun w' h => Q5.out w' (below_step HW3.out h)
                have x2 : IntKind.i64.wrap ((k : Int) + 1) = (k : Int) + 1 := IntWalk.i64_in _ (by omega)
                have x3 : IntKind.i64.wrap ((v : Int) + 2) = (v : Int) + 2 := IntWalk.i64_in _ (by omega)
                have y5 : ((k : Int) + 1).toNat = k + 1 := by omega
                repeat (first
                  | ((with_reducible refine wpInv_move ?_ ?_); exact rfl; simp only [Act.put, List.setIfInBounds_toArray, List.set_cons_zero, List.set_cons_succ])
                  | (apply wpInv_val rfl
                     · (intro w' hw'; go_simp; with_reducible rfl)
                     simp only [Act.put, List.setIfInBounds_toArray, List.set_cons_zero, List.set_cons_succ]))
                refine wpInv_nil (HR.out _ (fun w4 hw4 => ?_))
                have HW4 := Lib.hid (below_step HW3.out hw4)
                clear q4 q5 x2 x3 y5 HR R hw4
                have HR4 := Lib.hid (HR2.out.later HW4.out)
                obtain ⟨v4, hc4⟩ := Option.isSome_iff_exists.1 (HR4.out.there k hkl)
                have hf4 := HR4.out.free k
                go_wp2
                go_roundw
                case rel =>
                  refine ⟨k, _, rfl, by omega, rfl, (HT2.out.later HW4.out).set _ _, ?_, ?_, fun h => ?_, (below_step HB3.out HW4.out).setCell (by have := HBB.out.size; show _ ≤ wi.heap.size; omega) _⟩
                  · rw [World.cell?_setCell_other _ _ _ _ (fun e => by have := congrArg Addr.block e; simp at this; omega)]; exact Q4.out w4 HW4.out
                  · have hset := HR4.out.set hkl HST.out
                    have hgo : ∀ y : Int, y = ((min (p + c) (min (u + 2) (v + 2)) : Nat) : Int) → RowS (w4.setCell ⟨wi.heap.size, k, none⟩ (.int .i64 y)) (bs a) (bs b) b.size wi.heap.size i k := by
                      rintro _ rfl; exact hset
                    refine hgo _ ?_
                    split <;> omega
                  · refine ⟨r, ?_, (HN2.out.later HW4.out).other (by simpa using n4) _, n3, n4⟩
                    rw [World.cell?_setCell_other _ _ _ _ (fun e => by have := congrArg Addr.block e; simp at this; omega)]; exact Q1.out w4 HW4.out
                case measure => simp [intOf]


set_option maxHeartbeats 1000000 in
theorem RDistance_any (a b : ByteArray) (w : World) (sa : a.size ≤ 9223372036854775807) (sb : b.size ≤ 9223372036854775807) : Calls Tryd.prog 30 #[.string a, .string b] w (Ret (distV a b) w) := by
  by_cases ha : validS a = true
  · by_cases hb : validS b = true
    · have := RDistance_walk a b w ha hb
      rwa [show distV a b = .tuple #[.int .i64 (E (bs a) (bs b) : Nat), .int .i64 0] by simp [distV, ha, hb]]
    · have HA := Lib.hid ha
      have HB := Lib.hid (show validS b = false by simpa using hb)
      have HD := Lib.hid (show distV a b = .tuple #[.int .i64 0, .int .i64 1] by simp [distV, hb])
      clear ha hb
      go_enter Tryd.func30, Tryd.ntmps30
      go_wp2_with fail
      refine (RValid_any a w sa).mono ?_
      rintro e w1 ⟨rfl, hb1⟩
      rw [HA.out]
      go_wp2_with fail
      refine (RValid_any b w1 sb).mono ?_
      rintro e w2 ⟨rfl, hb2⟩
      rw [HB.out]
      have HB2 := Lib.hid (below_step hb1 hb2)
      clear hb1 hb2
      go_wp2
      go_ret2
      exact ⟨by rw [HD.out]; rfl, HB2.out⟩
  · have HA := Lib.hid (show validS a = false by simpa using ha)
    have HD := Lib.hid (show distV a b = .tuple #[.int .i64 0, .int .i64 1] by simp [distV, ha])
    obtain ⟨vb, hvb⟩ : ∃ v, validS b = v := ⟨_, rfl⟩
    have HVB := Lib.hid hvb
    clear ha hvb
    go_enter Tryd.func30, Tryd.ntmps30
    go_wp2_with fail
    refine (RValid_any a w sa).mono ?_
    rintro e w1 ⟨rfl, hb1⟩
    rw [HA.out]
    go_wp2_with fail
    refine (RValid_any b w1 sb).mono ?_
    rintro e w2 ⟨rfl, hb2⟩
    rw [HVB.out]
    have HB2 := Lib.hid (below_step hb1 hb2)
    clear hb1 hb2
    go_wp2
    go_ret2
    exact ⟨by rw [HD.out]; rfl, HB2.out⟩

end Go.Proofs.YtmcodendnpjlaaaDoor
