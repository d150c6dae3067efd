/- The reference's Goes, and that it tells the same as flood.Goes. -/
import Derived.Test.YtnibdmbkefldfaaFlB
namespace Go.Proofs.Ytnibdmbkefldfaa
open Go.RowKit

def refB (d o k lv self slv : Int) (top : Bool) (on olv : Int) : Bool :=
  if d = 2 then (if olv > slv then true else if olv = slv then top else false)
  else if d = 1 then (if olv > slv then (k == 1) && ((lv == olv) && (o != on)) else if olv = slv then (k == 1) && (o == self) else (o == self))
  else false

theorem ref_eq (d o k lv self slv : Int) (top : Bool) (on olv : Int) : rAny d (cmpI olv slv) o k lv self top on olv = refB d o k lv self slv top on olv := by
  unfold rAny refB cmpI
  simp only [rHit, rDir, rWh, rFit]
  by_cases h1 : olv < slv
  · have h2 : ¬ slv < olv := by omega
    have h3 : ¬ olv = slv := by omega
    by_cases d1 : d = 1
    · subst d1; simp [h1, h2, h3]
    · by_cases d2 : d = 2
      · subst d2; simp [h1, h2, h3]
      · simp [d1, d2, Ne.symm d1, Ne.symm d2]
  · by_cases h2 : slv < olv
    · have h3 : ¬ olv = slv := by omega
      by_cases d1 : d = 1
      · subst d1; simp [h1, h2]
      · by_cases d2 : d = 2
        · subst d2; simp [h1, h2]
        · simp [d1, d2, Ne.symm d1, Ne.symm d2]
    · have h3 : olv = slv := by omega
      by_cases d1 : d = 1
      · subst d1; simp [h3]
      · by_cases d2 : d = 2
        · subst d2; simp [h3]
        · simp [d1, d2, Ne.symm d1, Ne.symm d2]

section
variable (d o k nr seq life lv : Int) (ov : Bool) (ea : Option Addr) (el ec : Nat) (ra : Option Addr) (rl rc : Nat) (self slv : Int) (top : Bool) (on ol olv onc : Int) (w : World)
theorem ref_any : Calls Try.prog 9 #[.agg #[.int .i64 d, .int .i64 o, .int .i64 k, .int .i64 nr, .int .i64 seq, .int .i64 life, .int .i64 lv, .bool ov, .slice ea el ec, .slice ra rl rc], .agg #[.int .i64 self, .int .i64 slv, .bool top, .int .i64 on, .int .i64 ol, .int .i64 olv, .int .i64 onc]] w
    fun e w' => e = .returned (.bool (refB d o k lv self slv top on olv)) ∧ Below w.heap.size w w' := by
  go_enter Try.func9, Try.ntmps9
  go_wp2
  all_goals go_ret
  all_goals refine ⟨?_, ((((Below.refl _ _).alloc (Nat.le_refl _) _).alloc (by simp) _).alloc (by simp; omega) _)⟩
  all_goals
    simp only [refB]
    congr 2
  all_goals simp_all
  all_goals (intro; omega)
end

/-! ### Pieces, and where they may go, as plain values -/
structure Tie where
  d : Int
  o : Int
  k : Int
  nr : Int
  seq : Int
  life : Int
  lv : Int
  ov : Bool
  e : Sl (Int × Int × Int)
  r : Sl ((Int × Int) × Int)
structure Scope where
  self : Int
  slv : Int
  top : Bool
  on : Int
  ol : Int
  olv : Int
  onc : Int
def rEdge : Rd (Int × Int × Int) := (Rd.int .i64).pair ((Rd.int .i64).pair (Rd.int .i64))
def rPre : Rd (Int × Int) := (Rd.int .u32).pair (Rd.int .i64)
def rReach : Rd ((Int × Int) × Int) := rPre.pair (Rd.int .i64)
def rId : Rd (Int × Int × Int × Int) := (Rd.int .i64).pair ((Rd.int .i64).pair ((Rd.int .i64).pair (Rd.int .i64)))
def rHead := rId.pair ((Rd.int .i64).pair (Rd.int .i64))
def rTie : Rd Tie := (rHead.pair ((Rd.int .i64).pair (Rd.bool.pair ((Rd.slice rEdge).pair (Rd.slice rReach))))).iso
  fun x => ⟨x.1.1.1, x.1.1.2.1, x.1.1.2.2.1, x.1.1.2.2.2, x.1.2.1, x.1.2.2, x.2.1, x.2.2.1, x.2.2.2.1, x.2.2.2.2⟩
def rOther : Rd (Int × Int × Int × Int) := rId
def rScope : Rd Scope := ((Rd.int .i64).pair ((Rd.int .i64).pair (Rd.bool.pair rOther))).iso fun x => ⟨x.1, x.2.1, x.2.2.1, x.2.2.2.1, x.2.2.2.2.1, x.2.2.2.2.2.1, x.2.2.2.2.2.2⟩

def Tie.cells (t : Tie) : List Value := [.int .i64 t.d, .int .i64 t.o, .int .i64 t.k, .int .i64 t.nr, .int .i64 t.seq, .int .i64 t.life, .int .i64 t.lv, .bool t.ov, .slice t.e.a t.e.l.length t.e.cap, .slice t.r.a t.r.l.length t.r.cap]
def Tie.v (t : Tie) : Value := .agg t.cells.toArray
def Scope.v (s : Scope) : Value := .agg #[.int .i64 s.self, .int .i64 s.slv, .bool s.top, .int .i64 s.on, .int .i64 s.ol, .int .i64 s.olv, .int .i64 s.onc]
theorem rTie_out {w : World} {cs : List Value} {t : Tie} (h : rTie.R w cs t) : cs = t.cells ∧ (Rd.slice rEdge).R w [.slice t.e.a t.e.l.length t.e.cap] t.e ∧ (Rd.slice rReach).R w [.slice t.r.a t.r.l.length t.r.cap] t.r := by
  obtain ⟨x, ⟨_, _, rfl, ⟨_, _, rfl, ⟨_, _, rfl, ⟨rfl, _⟩, ⟨_, _, rfl, ⟨rfl, _⟩, ⟨_, _, rfl, ⟨rfl, _⟩, ⟨rfl, _⟩⟩⟩⟩, ⟨_, _, rfl, ⟨rfl, _⟩, ⟨rfl, _⟩⟩⟩, ⟨_, _, rfl, ⟨rfl, _⟩, ⟨_, _, rfl, rfl, ⟨_, _, rfl, he, hr⟩⟩⟩⟩, rfl⟩ := h
  obtain ⟨rfl, he⟩ := he
  obtain ⟨rfl, hr⟩ := hr
  exact ⟨rfl, ⟨rfl, he⟩, ⟨rfl, hr⟩⟩
theorem rScope_out {w : World} {cs : List Value} {s : Scope} (h : rScope.R w cs s) : (Value.agg cs.toArray) = s.v := by
  obtain ⟨x, ⟨_, _, rfl, ⟨rfl, _⟩, ⟨_, _, rfl, ⟨rfl, _⟩, ⟨_, _, rfl, rfl, ⟨_, _, rfl, ⟨rfl, _⟩, ⟨_, _, rfl, ⟨rfl, _⟩, ⟨_, _, rfl, ⟨rfl, _⟩, ⟨rfl, _⟩⟩⟩⟩⟩⟩⟩, rfl⟩ := h
  rfl
theorem opens_i64 : Opens Try.prog 3 (Rd.int .i64) := opens_int Try.underlying3
theorem opens_edge : Opens Try.prog 52 rEdge := opens_struct Try.underlying52 (by kernel_rfl) (.cons rfl (by kernel_rfl) opens_i64 (.cons rfl (by kernel_rfl) opens_i64 (.one rfl (by kernel_rfl) opens_i64)))
theorem opens_pre : Opens Try.prog 55 rPre := opens_struct Try.underlying55 (by kernel_rfl) (.cons rfl (by kernel_rfl) (opens_int Try.underlying53) (.one rfl (by kernel_rfl) opens_i64))
theorem opens_reach : Opens Try.prog 57 rReach := opens_struct Try.underlying57 (by kernel_rfl) (.cons rfl (by kernel_rfl) opens_pre (.one rfl (by kernel_rfl) opens_i64))
theorem opens_id : Opens Try.prog 29 rId := opens_struct Try.underlying29 (by kernel_rfl) (.cons rfl (by kernel_rfl) opens_i64 (.cons rfl (by kernel_rfl) opens_i64 (.cons rfl (by kernel_rfl) opens_i64 (.one rfl (by kernel_rfl) opens_i64))))
theorem opens_other : Opens Try.prog 24 rOther := opens_struct Try.underlying24 (by kernel_rfl) (.cons rfl (by kernel_rfl) opens_i64 (.cons rfl (by kernel_rfl) opens_i64 (.cons rfl (by kernel_rfl) opens_i64 (.one rfl (by kernel_rfl) opens_i64))))
theorem opens_head : Opens Try.prog 31 rHead := opens_struct Try.underlying31 (by kernel_rfl) (.cons rfl (by kernel_rfl) opens_id (.cons rfl (by kernel_rfl) opens_i64 (.one rfl (by kernel_rfl) opens_i64)))
theorem opens_tie : Opens Try.prog 35 rTie := opens_iso (opens_struct Try.underlying35 (by kernel_rfl) (.cons rfl (by kernel_rfl) opens_head (.cons rfl (by kernel_rfl) opens_i64 (.cons rfl (by kernel_rfl) (opens_bool Try.underlying4)
  (.cons rfl (by kernel_rfl) (opens_slice Try.underlying32 (by kernel_rfl) (by decide) opens_edge) (.one rfl (by kernel_rfl) (opens_slice Try.underlying33 (by kernel_rfl) (by decide) opens_reach))))))) _
theorem opens_ties : Opens Try.prog 22 (Rd.slice rTie) := opens_slice Try.underlying22 (by kernel_rfl) (by decide) opens_tie
theorem opens_scope : Opens Try.prog 26 rScope := opens_iso (opens_struct Try.underlying26 (by kernel_rfl) (.cons rfl (by kernel_rfl) opens_i64 (.cons rfl (by kernel_rfl) opens_i64 (.cons rfl (by kernel_rfl) (opens_bool Try.underlying4) (.one rfl (by kernel_rfl) opens_other))))) _
end Go.Proofs.Ytnibdmbkefldfaa
