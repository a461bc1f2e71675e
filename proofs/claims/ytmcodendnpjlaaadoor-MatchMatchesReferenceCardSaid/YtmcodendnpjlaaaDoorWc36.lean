/- plate.Distance, called. -/
import Derived.Test.YtmcodendnpjlaaaDoorWa36
import Derived.Test.YtmcodendnpjlaaaDoorWb36
import Derived.Lib.OthersKept
import Derived.Deep.MidRow
namespace Go.Proofs.YtmcodendnpjlaaaDoor
open Go.RowKit

theorem mixed : Tryd.prog.follows .mixedOrders = true := by kernel_rfl

/-- An array of eleven numbers lies in block g. -/
def RowE (w : World) (g : Nat) (L : List Int) : Prop := L.length = 11 ∧ Blk w g 66 (L.map (Value.int .i64)).toArray

theorem RowE.cell {w : World} {g : Nat} {L : List Int} (h : RowE w g L) {j : Nat} (hj : j < 11) : w.cell? ⟨g, j, none⟩ = some (.int .i64 (L.getD j 0)) := by
  rw [h.2.cell]
  have : j < L.length := by rw [h.1]; exact hj
  simp [this]
theorem RowE.set {w : World} {g : Nat} {L : List Int} (h : RowE w g L) (j : Nat) (x : Int) : RowE (w.setCell ⟨g, j, none⟩ (.int .i64 x)) g (L.set j x) := by
  refine ⟨by simp [h.1], ?_⟩
  have := h.2.set j (.int .i64 x)
  simpa [List.map_set] using this

theorem RowE.later {w w' : World} {g : Nat} {L : List Int} (h : RowE w g L) (hb : Below w.heap.size w w') : RowE w' g L := ⟨h.1, h.2.later hb⟩
theorem RowE.other {w : World} {g : Nat} {L : List Int} (h : RowE w g L) {p : Addr} (hp : g ≠ p.block) (u : Value) : RowE (w.setCell p u) g L := ⟨h.1, h.2.other hp u⟩
theorem RowE.frozen {w : World} {g : Nat} {L : List Int} (h : RowE w g L) (j : Nat) : w.frozen? ⟨g, j, none⟩ = false := h.2.frozen j

theorem info11 : (Tryd.prog.info? 66).map (·.size) = some 11 := by kernel_rfl
theorem RowE.range {w : World} {g : Nat} {L : List Int} (h : RowE w g L) : w.rangeAt g 0 (L.map (Value.int .i64)) := fun j v hv => by
  rw [Nat.zero_add, h.2.cell]
  simpa using hv
theorem RowE.info {w : World} {g : Nat} {L : List Int} (h : RowE w g L) : (Tryd.prog.info? 66).map (·.size) = some (L.map (Value.int .i64)).length := by
  rw [info11, List.length_map, h.1]
theorem RowE.info' {w : World} {g : Nat} {L : List Int} (h : RowE w g L) : (Tryd.prog.info? 66).map (·.size) = some (L.map (Value.int .i64)).toArray.size := by
  rw [info11, List.size_toArray, List.length_map, h.1]
theorem RowE.there {w : World} {g : Nat} {L M : List Int} (h : RowE w g L) (hM : M.length = 11) : w.there g 0 (M.map (Value.int .i64)).toArray.size := fun j hj => by
  have hj' : j < 11 := by simpa [hM] using hj
  rw [Nat.zero_add]
  exact ⟨by rw [h.cell hj']; rfl, h.frozen j⟩
theorem allOne (M : List Int) : (M.map (Value.int .i64)).toArray.all (·.oneCell') = true :=
  all_oneCell_toArray (fun v hv => by
    obtain ⟨x, _, rfl⟩ := List.mem_map.1 hv
    rfl)

/-- The two arrays; what was there before the call. -/
structure Mem (w : World) (B : Nat) (wr : World) (L M : List Int) : Prop where
  rl : RowE wr B L
  rm : RowE wr (B + 1) M
  bel : Below w.heap.size w wr
  le : w.heap.size ≤ B

theorem Mem.lt {w wr : World} {B : Nat} {L M : List Int} (h : Mem w B wr L M) : B + 1 < wr.heap.size := h.rm.2.lt
theorem Mem.setL {w wr : World} {B : Nat} {L M : List Int} (h : Mem w B wr L M) (j : Nat) (x : Int) : Mem w B (wr.setCell ⟨B, j, none⟩ (.int .i64 x)) (L.set j x) M :=
  ⟨h.rl.set j x, h.rm.other (by simp) _, h.bel.setCell (by exact h.le) _, h.le⟩
theorem Mem.setM {w wr : World} {B : Nat} {L M : List Int} (h : Mem w B wr L M) (j : Nat) (x : Int) : Mem w B (wr.setCell ⟨B + 1, j, none⟩ (.int .i64 x)) L (M.set j x) :=
  ⟨h.rl.other (by simp) _, h.rm.set j x, h.bel.setCell (by have := h.le; simp; omega) _, h.le⟩
theorem Mem.later {w wr wr' : World} {B : Nat} {L M : List Int} (h : Mem w B wr L M) (hb : Below wr.heap.size wr wr') : Mem w B wr' L M :=
  ⟨h.rl.later hb, h.rm.later hb, below_step h.bel hb, h.le⟩

/-- An iterator over s that stands at pos lies in block k. -/
def Iter (w : World) (k : Nat) (s : ByteArray) (pos : Nat) : Prop := w.heap[k]? = some (.stringIter s pos)
theorem Iter.lt {w : World} {k : Nat} {s : ByteArray} {pos : Nat} (h : Iter w k s pos) : k < w.heap.size := (Array.getElem?_eq_some_iff.1 h).1
theorem Iter.later {w w' : World} {k : Nat} {s : ByteArray} {pos : Nat} (h : Iter w k s pos) (hb : Below w.heap.size w w') : Iter w' k s pos := (hb.block k h.lt).trans h
theorem Iter.set {w : World} {k : Nat} {s : ByteArray} {pos : Nat} (h : Iter w k s pos) {p : Addr} (hp : k ≠ p.block) (u : Value) : Iter (w.setCell p u) k s pos := (Below.heap_setCell w p u k hp).trans h
theorem Iter.pos {w : World} {k : Nat} {s : ByteArray} {pos : Nat} (h : Iter w k s pos) : w.iterPos k = pos := by
  unfold Iter at h
  simp [World.iterPos, h]

theorem RowE.iterAt {w : World} {g : Nat} {L : List Int} (h : RowE w g L) {k : Nat} (hk : g ≠ k) (s : ByteArray) (pos : Nat) : RowE (w.iterAt k s pos) g L :=
  ⟨h.1, (Lib.iterAt_other w k g s pos hk).trans h.2⟩
theorem Mem.iterAt {w wr : World} {B : Nat} {L M : List Int} (h : Mem w B wr L M) {k : Nat} (hk : B + 1 < k) (s : ByteArray) (pos : Nat) : Mem w B (wr.iterAt k s pos) L M :=
  ⟨h.rl.iterAt (by omega) s pos, h.rm.iterAt (by omega) s pos, Lib.below_iterAt h.bel (by have := h.le; omega) s pos, h.le⟩

/-- Moving an iterator on: the world behind it, under a name. -/
theorem next_world {w wr : World} {B k : Nat} {L M : List Int} {s : ByteArray} {pos : Nat} (hM : Mem w B wr L M) (hk : B + 1 < k) (hi : Iter wr k s pos) (h : pos < s.size) (ha : (s[pos]'h).toNat < 128) :
    ∃ W, Mem w B W L M ∧ Iter W k s (pos + 1) ∧ W.heap.size = wr.heap.size ∧ (∀ j, j ≠ k → W.heap[j]? = wr.heap[j]?) ∧
      ∀ ty, (Instr.next (.pointer (some ⟨k, 0, none⟩)) true ty).run Tryd.prog wr = .ok (.tuple #[.bool true, .int .i64 pos, .int .i32 (s[pos]'h).toNat]) W :=
  ⟨wr.iterAt k s (pos + 1), hM.iterAt hk s _, Lib.iterAt_heap wr k s pos _ hi, Lib.iterAt_size _ _ _ _, fun j hj => Lib.iterAt_other wr k j s _ hj, fun ty => Lib.run_next_ascii_at wr k s pos ty hi h ha⟩

theorem heap_setCells (b : Nat) : ∀ (vs : List Value) (o : Nat) (w : World) (k : Nat), k ≠ b → (w.setCells b o vs).heap[k]? = w.heap[k]?
  | [], _, _, _, _ => rfl
  | v :: r, o, w, k, h => by rw [World.setCells, heap_setCells b r (o + 1) _ k h, Below.heap_setCell _ _ _ _ h]
theorem size_setCells (b : Nat) : ∀ (vs : List Value) (o : Nat) (w : World), (w.setCells b o vs).heap.size = w.heap.size
  | [], _, _ => rfl
  | v :: r, o, w => by rw [World.setCells, size_setCells b r (o + 1)]; simp [World.setCell]
theorem same_setCells (b : Nat) : ∀ (vs : List Value) (o : Nat) (w : World), (w.setCells b o vs).os = w.os ∧ (w.setCells b o vs).tape = w.tape ∧ (w.setCells b o vs).output = w.output
  | [], _, _ => ⟨rfl, rfl, rfl⟩
  | v :: r, o, w => by rw [World.setCells]; exact same_setCells b r (o + 1) _

theorem Blk.setCells {g : Nat} {t : TypeId} : ∀ (vs : List Value) (o : Nat) (w : World) (cs : Array Value), Blk w g t cs →
    ∃ cs', Blk (w.setCells g o vs) g t cs' ∧ cs'.size = cs.size ∧ ∀ i, i < cs.size → cs'[i]? = if o ≤ i ∧ i < o + vs.length then vs[i - o]? else cs[i]?
  | [], o, w, cs, h => ⟨cs, h, rfl, fun i _ => by rw [if_neg (by simp only [List.length_nil]; omega)]⟩
  | v :: r, o, w, cs, h => by
    obtain ⟨cs', h1, h2, h3⟩ := Blk.setCells r (o + 1) _ _ (h.set o v)
    refine ⟨cs', h1, by simpa using h2, fun i hi => ?_⟩
    rw [h3 i (by simpa using hi)]
    by_cases hoi : o = i
    · subst hoi
      rw [if_neg (by omega), if_pos (by simp)]
      simp [hi]
    · by_cases h4 : o + 1 ≤ i ∧ i < o + 1 + r.length
      · rw [if_pos h4, if_pos (by simp; omega), show i - o = (i - (o + 1)) + 1 by omega, List.getElem?_cons_succ]
      · rw [if_neg h4, if_neg (by simp; omega), Array.getElem?_setIfInBounds_ne hoi]

/-- 'before = now': the first array is the second one behind it. -/
theorem Mem.copied {w wr : World} {B : Nat} {L M : List Int} (h : Mem w B wr L M) : Mem w B (wr.setCells B 0 (M.map (Value.int .i64))) M M := by
  obtain ⟨h1, h2, h3⟩ := same_setCells B (M.map (Value.int .i64)) 0 wr
  refine ⟨⟨h.rm.1, ?_⟩, ⟨h.rm.1, (heap_setCells B _ 0 wr (B + 1) (by omega)).trans h.rm.2⟩, ?_, h.le⟩
  · obtain ⟨cs', k1, k2, k3⟩ := Blk.setCells (M.map (Value.int .i64)) 0 wr _ h.rl.2
    have : cs' = (M.map (Value.int .i64)).toArray := by
      apply Array.ext_getElem?
      intro i
      have hs : (L.map (Value.int .i64)).toArray.size = 11 := by simp [h.rl.1]
      rcases Nat.lt_or_ge i 11 with hi | hi
      · rw [k3 i (by omega), if_pos (by simp [h.rm.1, hi])]
        simp
      · rw [Array.getElem?_eq_none (by omega), Array.getElem?_eq_none (by simp [h.rm.1, hi])]
    rw [this] at k1
    exact k1
  · exact h.bel.trans ⟨h1, h2, h3, by rw [size_setCells]; exact Nat.le_refl _, fun k hk => heap_setCells B _ 0 wr k (by have := h.le; omega)⟩

def zeros : List Int := [0, 0, 0, 0, 0, 0, 0, 0, 0, 0, 0]

theorem getD_set {L : List Int} {j : Nat} (hj : j < L.length) (x : Int) (i : Nat) : (L.set j x).getD i 0 = if i = j then x else L.getD i 0 := by
  by_cases h : i = j
  · subst h; simp [hj]
  · simp [h, List.getElem?_set_ne (Ne.symm h)]

theorem valid_ascii {s : ByteArray} (h : validS s = true) (k : Nat) (hk : k < s.size) : (s[k]'hk).toNat < 128 := by
  simp only [validS, Bool.and_eq_true] at h
  have := List.all_eq_true.1 h.2 ((bs s).getD k 0) (by
    have hl : k < (bs s).length := by rw [bs_length]; exact hk
    have e : (bs s).getD k 0 = (bs s)[k] := by simp [hl]
    rw [e]
    exact List.getElem_mem _)
  rw [bs_getD s k hk] at this
  exact okN_lt this

set_option maxHeartbeats 1000000 in
theorem Distance_walk (a b : ByteArray) (w : World) (hT : Tab w) (ha : validS a = true) (hb : validS b = true) :
    Calls Tryd.prog 22 #[.string a, .string b] w (Ret (.tuple #[.int .i64 (E (bs a) (bs b) : Nat), .int .i64 0]) w) := by
  have HA := Lib.hid ha
  have HB := Lib.hid hb
  have hla : 1 ≤ a.size ∧ a.size ≤ 10 := by simp [validS] at ha; omega
  have hlb : 1 ≤ b.size ∧ b.size ≤ 10 := by simp [validS] at hb; omega
  obtain ⟨hla1, hla2⟩ := hla
  obtain ⟨hlb1, hlb2⟩ := hlb
  have HT := Lib.hid hT
  clear ha hb hT
  go_enter Tryd.func22, Tryd.ntmps22
  go_wp2_with fail
  refine (Valid_any a w).mono ?_
  rintro e w1 ⟨rfl, hb1⟩
  rw [HA.out]
  go_wp2_with fail
  refine (Valid_any b w1).mono ?_
  rintro e w2 ⟨rfl, hb2⟩
  rw [HB.out]
  have HB2 := Lib.hid (below_step hb1 hb2)
  clear hb1 hb2
  go_wp2
  go_loopw [24] (fun u wr => ∃ j : Nat, j ≤ b.size + 1 ∧ u = .int .i64 j ∧ ∃ L M, Mem w w2.heap.size wr L M ∧ ∀ i : Nat, i < j → L.getD i 0 = 2 * i) (fun u _ => b.size + 1 - (intOf u).toNat)
  case atStart =>
    refine ⟨0, Nat.zero_le _, rfl, zeros, zeros, ⟨⟨rfl, (Blk.new w2 _ _).alloc _⟩, ⟨rfl, ?_⟩, below_alloc (below_alloc HB2.out _) _, HB2.out.size⟩, fun i hi => absurd hi (by omega)⟩
    have := Blk.new (w2.alloc (Obj.cells ((zeros.map (Value.int .i64)).toArray) 66)) 66 (zeros.map (Value.int .i64)).toArray
    have e : (w2.alloc (Obj.cells ((zeros.map (Value.int .i64)).toArray) 66)).heap.size = w2.heap.size + 1 := by simp
    rw [e] at this
    exact this
  case round =>
    obtain ⟨j, hj, rfl, L, M, hM, hL⟩ := hrel
    have HL := Lib.hid hL
    clear hL
    by_cases hjl : j < b.size + 1
    · have hc := hM.rl.cell (j := j) (by omega)
      have hf := hM.rl.frozen j
      have HM := Lib.hid hM
      clear hM
      go_wp2
      go_roundw
      case rel =>
        refine ⟨j + 1, by omega, by go_num, _, _, HM.out.setL j _, fun i hi => ?_⟩
        rw [getD_set (by rw [HM.out.rl.1]; omega)]
        split
        · omega
        · exact HL.out i (by omega)
      case measure => simp [intOf]; omega
    · have hlt := hM.lt
      have HM := Lib.hid hM
      clear hM
      have hj' : decide ((j : Int) < (b.size : Int) + 1) = false := by simp; omega
      go_wp2
      obtain ⟨wo, rfl⟩ : ∃ wo : World, wo = wr := ⟨_, rfl⟩
      go_loopw [9] (fun _ wr => ∃ i : Nat, i ≤ a.size ∧ Iter wr wo.heap.size a i ∧ ∃ L M, Mem w w2.heap.size wr L M ∧ ∀ j : Nat, j ≤ b.size → L.getD j 0 = G (bs a) (bs b) i j) (fun _ wr => a.size - wr.iterPos wo.heap.size)
      case atStart =>
        refine ⟨0, Nat.zero_le _, World.iter_heap wo a 0, L, M, HM.out.later (below_alloc (Below.refl _ _) _), fun i hi => ?_⟩
        rw [HL.out i (by omega), G_zero _ _ _ (by rw [bs_length]; exact hi)]; simp
      case round =>
        obtain ⟨i, hi, hit, L1, M1, hM1, hL1⟩ := hrel
        have HL1 := Lib.hid hL1
        clear hL1
        by_cases hil : i < a.size
        · obtain ⟨W1, hM2, hit2, hsz, hoth, hn⟩ := next_world hM1 hlt hit hil (valid_ascii HA.out i hil)
          have hc := hM2.rm.cell (j := 0) (by omega)
          have hf := hM2.rm.frozen 0
          have HM2 := Lib.hid hM2
          have HIT2 := Lib.hid hit2
          have HSZ := Lib.hid hsz
          have HPOS := Lib.hid hit.pos
          have hwo : wo.heap.size < W1.heap.size := by have := hit.lt; omega
          clear hM1 hM2 hit hit2 hsz hoth
          go_wp2
          obtain ⟨wi, rfl⟩ : ∃ wi : World, wi = wr := ⟨_, rfl⟩
          have hb1 : w2.heap.size + 1 < W1.heap.size := HM2.out.lt
          go_loopw [11] (fun _ wr => ∃ j : Nat, j ≤ b.size ∧ Iter wr W1.heap.size b j ∧ Iter wr wo.heap.size a (i + 1) ∧ ∃ M, Mem w w2.heap.size wr L1 M ∧ ∀ k : Nat, k ≤ j → M.getD k 0 = G (bs a) (bs b) (i + 1) k) (fun _ wr => b.size - wr.iterPos W1.heap.size)
          case atStart =>
            have hs0 : Iter ((W1.setCell ⟨w2.heap.size + 1, 0, none⟩ (.int .i64 (2 * ((i : Int) + 1)))).iter b 0) W1.heap.size b 0 := by
              have := World.iter_heap (W1.setCell ⟨w2.heap.size + 1, 0, none⟩ (.int .i64 (2 * ((i : Int) + 1)))) b 0
              simpa [Iter] using this
            refine ⟨0, Nat.zero_le _, hs0, (HIT2.out.set (by simp; omega) _).later (below_alloc (Below.refl _ _) _), _, (HM2.out.setM 0 _).later (below_alloc (Below.refl _ _) _), fun k hk => ?_⟩
            obtain rfl : k = 0 := by omega
            rw [getD_set (by rw [HM2.out.rm.1]; omega), if_pos rfl, G_first _ _ _ (by rw [bs_length]; omega)]
            simp
          case round =>
            obtain ⟨j, hj, hib, hia, M2, hM3, hL3⟩ := hrel
            have HL3 := Lib.hid hL3
            clear hL3
            by_cases hjl : j < b.size
            · obtain ⟨W3, hM4, hib4, hsz4, hoth4, hn4⟩ := next_world hM3 hb1 hib hjl (valid_ascii HB.out j hjl)
              have HM4 := Lib.hid hM4
              have HIB4 := Lib.hid hib4
              have HIA4 := Lib.hid ((hoth4 wo.heap.size (by omega)).trans hia)
              have HPOS4 := Lib.hid hib.pos
              clear hM3 hM4 hib hib4 hsz4 hoth4 hia
              go_wp2
              refine wp_region_inv 20 (fun w' => Below W3.heap.size W3 w') mixed (by kernel_rfl) (Below.refl _ _).drew ?_
              simp only [List.take_succ_cons, List.take_zero, List.drop_succ_cons, List.drop_zero]
              have x1 : IntKind.i64.wrap ((j : Int) + 1) = (j : Int) + 1 := IntWalk.i64_in _ (by omega)
              have y1 : (j : Int) < 11 := by omega
              have y2 : (j : Int) + 1 < 11 := by omega
              have y3 : 0 ≤ (j : Int) + 1 := by omega
              have y4 : ((j : Int) + 1).toNat = j + 1 := by omega
              have y5 : j < 11 := by omega
              have y6 : j + 1 < 11 := by omega
              intro R hR
              have HR := Lib.hid hR
              clear hR
              obtain ⟨p, hp⟩ : ∃ p : Nat, p = G (bs a) (bs b) i j := ⟨_, rfl⟩
              obtain ⟨q, hq⟩ : ∃ q : Nat, q = G (bs a) (bs b) i (j + 1) := ⟨_, rfl⟩
              obtain ⟨r, hr⟩ : ∃ r : Nat, r = G (bs a) (bs b) (i + 1) j := ⟨_, rfl⟩
              obtain ⟨c, hcc⟩ : ∃ c : Nat, c = rc (a[i]'hil).toNat (b[j]'hjl).toNat := ⟨_, rfl⟩
              have hp' : p ≤ 40 := by rw [hp]; have := G_le (bs a) (bs b) i j; omega
              have hq' : q ≤ 40 := by rw [hq]; have := G_le (bs a) (bs b) i (j + 1); omega
              have hr' : r ≤ 40 := by rw [hr]; have := G_le (bs a) (bs b) (i + 1) j; omega
              have hc' : c ≤ 2 := by rw [hcc]; exact rc_le _ _
              have c1 : ∀ w', Below W3.heap.size W3 w' → w'.cell? ⟨w2.heap.size, j, none⟩ = some (.int .i64 (p : Int)) := fun w' h => by
                rw [(HM4.out.rl.later h).cell (by omega), HL1.out j (by omega), hp]
              have c2 : ∀ w', Below W3.heap.size W3 w' → w'.cell? ⟨w2.heap.size, j + 1, none⟩ = some (.int .i64 (q : Int)) := fun w' h => by
                rw [(HM4.out.rl.later h).cell (by omega), HL1.out (j + 1) (by omega), hq]
              have c3 : ∀ w', Below W3.heap.size W3 w' → w'.cell? ⟨w2.heap.size + 1, j, none⟩ = some (.int .i64 (r : Int)) := fun w' h => by
                rw [(HM4.out.rm.later h).cell (by omega), HL3.out j (by omega), hr]
              have HP := Lib.hid hp
              have HQ := Lib.hid hq
              have HRR := Lib.hid hr
              have HC := Lib.hid hcc
              clear hp hq hr hcc
              have x2 : IntKind.i64.wrap ((p : Int) + (c : Int)) = (p : Int) + (c : Int) := IntWalk.i64_in _ (by omega)
              have x3 : IntKind.i64.wrap ((q : Int) + 2) = (q : Int) + 2 := IntWalk.i64_in _ (by omega)
              have x4 : IntKind.i64.wrap ((r : Int) + 2) = (r : Int) + 2 := IntWalk.i64_in _ (by omega)
              repeat (first
                | ((with_reducible refine wpInv_move ?_ ?_); exact rfl; simp only [Act.put, List.setIfInBounds_toArray, List.set_cons_zero, List.set_cons_succ])
                | (apply wpInv_call 35 #[.int .i32 ((a[i]'hil).toNat : Nat), .int .i32 ((b[j]'hjl).toNat : Nat)] rfl (v := .int .i64 (c : Int))
                   · (intro w'; go_simp)
                   · exact fun w' hw' => (replace_any _ _ w' (HT.out.below (below_step HM4.out.bel hw'))).mono fun e w'' hh => ⟨by rw [HC.out]; exact hh.1, below_step hw' hh.2⟩
                   simp only [Act.put, List.setIfInBounds_toArray, List.set_cons_zero, List.set_cons_succ])
                | (apply wpInv_val rfl
                   · (intro w' hw'; go_simp; with_reducible rfl)
                   simp only [Act.put, List.setIfInBounds_toArray, List.set_cons_zero, List.set_cons_succ]))
              refine wpInv_nil (HR.out _ (fun w' hw' => ?_))
              clear c1 c2 c3 x2 x3 x4 HR
              have HM5 := Lib.hid (HM4.out.later hw')
              have c4 := HM5.out.rm.cell (j := j + 1) (by omega)
              have f4 := HM5.out.rm.frozen (j + 1)
              have HIB5 := Lib.hid (Iter.later HIB4.out hw')
              have HIA5 := Lib.hid (Iter.later HIA4.out hw')
              clear hw'
              go_wp2
              go_roundw
              case rel =>
                refine ⟨j + 1, by omega, HIB5.out.set (by simp; omega) _, Iter.set HIA5.out (by simp; omega) _, _, HM5.out.setM (j + 1) _, fun k hk => ?_⟩
                rw [getD_set (by rw [HM5.out.rm.1]; omega)]
                split
                · rename_i hkj
                  subst hkj
                  rw [G_succ (bs a) (bs b) i j (by rw [bs_length]; exact hil) (by rw [bs_length]; exact hjl), bs_getD a i hil, bs_getD b j hjl, ← HP.out, ← HQ.out, ← HRR.out, ← HC.out]
                  omega
                · exact HL3.out k (by omega)
              case measure =>
                rw [HPOS4.out, (HIB5.out.set (by simp; omega) _).pos]
                omega
            · have hn4 := fun ty => Lib.run_next_end_at (P := Tryd.prog) wr W1.heap.size b j ty hib hjl
              obtain rfl : j = b.size := by omega
              have HM3 := Lib.hid hM3
              have HIA := Lib.hid hia
              clear hM3 hia hib
              go_wp2_with (first
                | refine wpList_load_mid rfl 66 _ rfl (w2.heap.size + 1) 0 rfl (M2.map (Value.int .i64)) _ HM3.out.rm.range Tryd.underlying66 rfl HM3.out.rm.info ?_
                | refine wpList_store_mid rfl 66 _ _ rfl w2.heap.size 0 (M2.map (Value.int .i64)).toArray rfl rfl (HM3.out.rl.there HM3.out.rm.1) HM3.out.rm.info' (allOne M2) ?_)
              go_roundw
              case rel =>
                (repeat apply Exists.intro)
                exact ⟨⟨i + 1, by omega, (heap_setCells _ _ _ _ _ (by omega)).trans HIA.out, M2, M2, HM3.out.copied, HL3.out⟩, rfl⟩
              case measure =>
                have hia' : Iter (wr.setCells w2.heap.size 0 (M2.map (Value.int .i64))) wo.heap.size a (i + 1) := (heap_setCells _ _ _ _ _ (by omega)).trans HIA.out
                rw [HPOS.out, hia'.pos]
                omega
        · have hn := fun ty => Lib.run_next_end_at (P := Tryd.prog) wr wo.heap.size a i ty hit hil
          have hc := hM1.rl.cell (j := b.size) (by omega)
          have HM1 := Lib.hid hM1
          have hd := HL1.out b.size (Nat.le_refl _)
          obtain rfl : i = a.size := by omega
          rw [hd] at hc
          have HG := Lib.hid (show G (bs a) (bs b) a.size b.size = E (bs a) (bs b) by have := G_whole (bs a) (bs b); rwa [bs_length, bs_length] at this)
          clear hM1 hd
          go_wp2
          go_ret2
          exact ⟨by rw [← HG.out]; rfl, HM1.out.bel⟩


/-- What plate.Distance, and its reference, return. -/
def distV (a b : ByteArray) : Value := if validS a && validS b then .tuple #[.int .i64 (E (bs a) (bs b) : Nat), .int .i64 0] else .tuple #[.int .i64 0, .int .i64 1]

set_option maxHeartbeats 1000000 in
theorem Distance_any (a b : ByteArray) (w : World) (hT : Tab w) : Calls Tryd.prog 22 #[.string a, .string b] w (Ret (distV a b) w) := by
  by_cases ha : validS a = true
  · by_cases hb : validS b = true
    · have := Distance_walk a b w hT ha hb
      rwa [show distV a b = .tuple #[.int .i64 (E (bs a) (bs b) : Nat), .int .i64 0] by simp [distV, ha, hb]]
    · have HA := Lib.hid ha
      have HB := Lib.hid (show validS b = false by simpa using hb)
      have HD := Lib.hid (show distV a b = .tuple #[.int .i64 0, .int .i64 1] by simp [distV, hb])
      clear ha hb
      go_enter Tryd.func22, Tryd.ntmps22
      go_wp2_with fail
      refine (Valid_any a w).mono ?_
      rintro e w1 ⟨rfl, hb1⟩
      rw [HA.out]
      go_wp2_with fail
      refine (Valid_any b w1).mono ?_
      rintro e w2 ⟨rfl, hb2⟩
      rw [HB.out]
      have HB2 := Lib.hid (below_step hb1 hb2)
      clear hb1 hb2
      go_wp2
      go_ret2
      exact ⟨by rw [HD.out]; rfl, HB2.out⟩
  · have HA := Lib.hid (show validS a = false by simpa using ha)
    have HD := Lib.hid (show distV a b = .tuple #[.int .i64 0, .int .i64 1] by simp [distV, ha])
    clear ha
    go_enter Tryd.func22, Tryd.ntmps22
    go_wp2_with fail
    refine (Valid_any a w).mono ?_
    rintro e w1 ⟨rfl, hb1⟩
    rw [HA.out]
    have HB2 := Lib.hid hb1
    clear hb1
    go_wp2
    go_ret2
    exact ⟨by rw [HD.out]; rfl, HB2.out⟩

end Go.Proofs.YtmcodendnpjlaaaDoor
