/- Package auditor: a claim and an examination in memory. -/
import Derived.Test.YtkfmmiekajgdjaaGreatWe43
namespace Go.Proofs.YtkfmmiekajgdjaaGreat
open Go.RowKit
attribute [local go_sem] Oper.semAt_some

def getArt (l : List Art) (i : Nat) : Art := l.getD i Art.zero
def ArtAt (w : World) (b q : Nat) (a : Art) : Prop := w.cell? ⟨b, q, none⟩ = some (.int .i64 a.k) ∧ w.cell? ⟨b, q + 1, none⟩ = some (.int .i64 a.d) ∧ w.cell? ⟨b, q + 2, none⟩ = some (.int .i64 a.f) ∧ w.cell? ⟨b, q + 3, none⟩ = some (.int .i64 a.t) ∧ w.cell? ⟨b, q + 4, none⟩ = some (.int .i64 a.p) ∧ w.cell? ⟨b, q + 5, none⟩ = some (.int .i64 a.u) ∧ w.cell? ⟨b, q + 6, none⟩ = some (.int .i64 a.r)
def Arts (w : World) (o : Option Addr) (l : List Art) : Prop := ∀ i, i < l.length → ∃ b off, o = some ⟨b, off, none⟩ ∧ ArtAt w b (off + i * 7) (getArt l i)
theorem Arts.later {w w' : World} {o : Option Addr} {l : List Art} (h : Arts w o l) (hb : Below w.heap.size w w') : Arts w' o l := fun i hi => by
  obtain ⟨b, off, ho, c0, c1, c2, c3, c4, c5, c6⟩ := h i hi
  exact ⟨b, off, ho, cell_kept hb c0, cell_kept hb c1, cell_kept hb c2, cell_kept hb c3, cell_kept hb c4, cell_kept hb c5, cell_kept hb c6⟩

/-- A session, and where its slices lie. -/
structure SesA where
  f : Int
  t : Int
  e : Int
  o : Option Addr
  cap : Nat
  l : List (Int × Int)
/-- A bill, and where its lines lie. -/
structure BilA where
  o : Option Addr
  cap : Nat
  l : List (Int × Int)
  net : Int
  tax : Int
  tot : Int
def SesA.zero : SesA := ⟨0, 0, 0, none, 0, []⟩
def BilA.zero : BilA := ⟨none, 0, [], 0, 0, 0⟩
/-- A claim, and where its parts lie. -/
structure ClA where
  nm : ByteArray
  oa : Option Addr
  ca : Nat
  arts : List Art
  off : Int
  oc : Option Addr
  cc : Nat
  chg : List (Int × Int)
  oh : Option Addr
  ch : Nat
  hol : List Int
  od : Option Addr
  cd : Nat
  rds : List Rd
  seed : Nat
  s : SesA
  b : BilA
@[reducible] def clL (c : ClA) : List Value := [.string c.nm, .slice c.oa c.arts.length c.ca, .int .i64 c.off, .slice c.oc c.chg.length c.cc, .slice c.oh c.hol.length c.ch, .slice c.od c.rds.length c.cd, .int .u64 (c.seed : Nat), .int .i64 c.s.f, .int .i64 c.s.t, .int .i64 c.s.e, .slice c.s.o c.s.l.length c.s.cap, .slice c.b.o c.b.l.length c.b.cap, .int .i64 c.b.net, .int .i64 c.b.tax, .int .i64 c.b.tot]
@[reducible] def exL (c : ClA) (f : SesA) (b : BilA) (r : Int) : List Value := [.string c.nm, .slice c.oa c.arts.length c.ca, .int .i64 c.off, .slice c.oc c.chg.length c.cc, .slice c.oh c.hol.length c.ch, .slice c.od c.rds.length c.cd, .int .u64 (c.seed : Nat), .int .i64 c.s.f, .int .i64 c.s.t, .int .i64 c.s.e, .slice c.s.o c.s.l.length c.s.cap, .slice c.b.o c.b.l.length c.b.cap, .int .i64 c.b.net, .int .i64 c.b.tax, .int .i64 c.b.tot, .int .i64 f.f, .int .i64 f.t, .int .i64 f.e, .slice f.o f.l.length f.cap, .slice b.o b.l.length b.cap, .int .i64 b.net, .int .i64 b.tax, .int .i64 b.tot, .int .i64 r]
/-- What a claim reads as. -/
structure ClM (w : World) (c : ClA) : Prop where
  arts : Arts w c.oa c.arts
  chg : Twos w c.oc c.chg
  hol : Ints w c.oh c.hol
  rds : Rds w c.od c.rds
  sls : Twos w c.s.o c.s.l
  lns : Twos w c.b.o c.b.l
  seed : c.seed < 18446744073709551616
  nm : c.nm.size ≤ 9000000000000000000
  na : c.arts.length ≤ 9000000000000000000
  nc : c.chg.length ≤ 9000000000000000000
  nh : c.hol.length ≤ 9000000000000000000
  nr : c.rds.length ≤ 9000000000000000000
  ns : c.s.l.length ≤ 9000000000000000000
  nl : c.b.l.length ≤ 9000000000000000000
theorem ClM.later {w w' : World} {c : ClA} (h : ClM w c) (hb : Below w.heap.size w w') : ClM w' c :=
  ⟨h.arts.later hb, h.chg.later hb, h.hol.later hb, h.rds.later hb, h.sls.later hb, h.lns.later hb, h.seed, h.nm, h.na, h.nc, h.nh, h.nr, h.ns, h.nl⟩
/-- An examination in block g; w0 is the world in which it began. -/
structure ExM (w0 w : World) (g : Nat) (c : ClA) (f : SesA) (b : BilA) (r : Int) : Prop where
  cl : ClM w0 c
  below : Below w0.heap.size w0 w
  ge : w0.heap.size ≤ g
  blk : Blk w g 115 (exL c f b r).toArray
section
variable {w0 w w' : World} {g : Nat} {c : ClA} {f f' : SesA} {b b' : BilA} {r r' : Int}
theorem ExM.later (h : ExM w0 w g c f b r) (hb : Below w.heap.size w w') : ExM w0 w' g c f b r := ⟨h.cl, below_step h.below hb, h.ge, h.blk.later hb⟩
theorem ExM.here (h : ExM w0 w g c f b r) : ClM w c := h.cl.later h.below
/-- A cell of the examination is written. -/
theorem ExM.set (h : ExM w0 w g c f b r) {i : Nat} {u : Value} (hc : (exL c f b r).toArray.setIfInBounds i u = (exL c f' b' r').toArray) : ExM w0 (w.setCell ⟨g, i, none⟩ u) g c f' b' r' :=
  ⟨h.cl, h.below.setCell (p := ⟨g, i, none⟩) h.ge u, h.ge, by rw [← hc]; exact h.blk.set i u⟩
end
/-- All but block g is as it was. -/
theorem agr_set {w : World} {g i : Nat} {u : Value} : Agr w (w.setCell ⟨g, i, none⟩ u) [g] := (Agr.refl w [g]).set (by simp)
end Go.Proofs.YtkfmmiekajgdjaaGreat
