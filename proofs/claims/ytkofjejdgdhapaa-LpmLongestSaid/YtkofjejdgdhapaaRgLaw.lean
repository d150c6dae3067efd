/- A range over a function whose body never leaves and writes one box and its row: the law of the walk, for an iterator that itself ranges over iterators. -/
import Derived.Test.YtkofjejdgdhapaaBase
import Derived.RangeFuncNested
import Derived.RangeFuncBound
import Derived.RangeFuncCalls
import Derived.RangeFuncLeaves
import Derived.Shelf.Abstract
import Derived.Shelf.RegionOpen
import Derived.OwnWalkIn
import Derived.TacticsInMore
import Derived.LoopNIn
import Derived.LoopIn
namespace Go.Proofs.Ytkofjejdgdhapaa
open Go.RowKit Go.Shelf

/-- Block k is neither the box Bo nor the row that it holds. -/
def NMine (Bo : Nat) (W : World) (k : Nat) : Prop := k ≠ Bo ∧ ∀ v g, W.cell? ⟨Bo, 0, none⟩ = some v → v.ownBlock = some g → g ≠ k
/-- All stays but the box and its row. -/
structure KpO (Bo : Nat) (W W' : World) : Prop where
  size : W.heap.size ≤ W'.heap.size
  same : ∀ k o, W.heap[k]? = some o → NMine Bo W k → W'.heap[k]? = some o ∧ NMine Bo W' k
/-- The box holds a row of cells. -/
def OutOk (Bo : Nat) (W : World) : Prop := ∃ v, W.cell? ⟨Bo, 0, none⟩ = some v ∧ ∀ g, v.ownBlock = some g → ∃ cur t fr, W.heap[g]? = some (.cells cur t fr)
theorem KpO.refl (Bo : Nat) (W : World) : KpO Bo W W := ⟨Nat.le_refl _, fun _ _ h n => ⟨h, n⟩⟩
theorem KpO.trans {Bo : Nat} {A B C : World} (h : KpO Bo A B) (k : KpO Bo B C) : KpO Bo A C :=
  ⟨Nat.le_trans h.size k.size, fun i o hi hn => let ⟨a, b⟩ := h.same i o hi hn; k.same i o a b⟩
theorem OutOk.lt {Bo : Nat} {W : World} (h : OutOk Bo W) : Bo < W.heap.size := by
  obtain ⟨v, h1, _⟩ := h; exact cell_size h1
theorem nm_block {Bo : Nat} {W W' : World} {k : Nat} (h : W'.heap[Bo]? = W.heap[Bo]?) (hn : NMine Bo W k) : NMine Bo W' k :=
  ⟨hn.1, fun v g hv hg => hn.2 v g (by rw [← World.cell?_of_block (a := ⟨Bo, 0, none⟩) h]; exact hv) hg⟩
/-- A step that turns no old block: new ones, and such as are new. -/
theorem KpO.step {Bo : Nat} {W W' W'' : World} (hk : KpO Bo W W') (ho : OutOk Bo W) (hs : W'.heap.size ≤ W''.heap.size) (hb : ∀ k, k < W.heap.size → W''.heap[k]? = W'.heap[k]?) : KpO Bo W W'' :=
  ⟨Nat.le_trans hk.size hs, fun k o h1 h2 => let ⟨a, b⟩ := hk.same k o h1 h2; ⟨(hb k (size_of h1)).trans a, nm_block (hb Bo ho.lt) b⟩⟩
theorem KpO.alloc {Bo : Nat} {W W' : World} (hk : KpO Bo W W') (ho : OutOk Bo W) (o : Obj) : KpO Bo W (W'.alloc o) :=
  hk.step ho (by rw [World.size_alloc]; omega) (fun k h => Below.heap_alloc _ _ _ (Nat.lt_of_lt_of_le h hk.size))
theorem KpO.drew {Bo : Nat} {W W' : World} (hk : KpO Bo W W') (ho : OutOk Bo W) : KpO Bo W W'.drew := hk.step ho (Nat.le_refl _) (fun _ _ => rfl)
theorem KpO.setNew {Bo : Nat} {W W' : World} (hk : KpO Bo W W') (ho : OutOk Bo W) {b : Nat} (hb : W.heap.size ≤ b) (o : Nat) (v : Value) : KpO Bo W (W'.setCell ⟨b, o, none⟩ v) :=
  hk.step ho (by rw [World.size_setCell]; exact Nat.le_refl _) (fun k h => Below.heap_setCell _ _ _ _ (show k ≠ b by omega))
theorem KpO.putNew {Bo : Nat} {W W' : World} (hk : KpO Bo W W') (ho : OutOk Bo W) {b : Nat} (hb : W.heap.size ≤ b) (o : Obj) : KpO Bo W (W'.putObj b o) :=
  hk.step ho (by simp) (fun k h => World.putObj_heap_other (by omega))
theorem nm_new {Bo : Nat} {W : World} (ho : OutOk Bo W) (o : Obj) : NMine Bo (W.alloc o) W.heap.size := by
  have hlt := ho.lt
  obtain ⟨v, h1, h2⟩ := ho
  refine ⟨by omega, fun v' g hv hg e => ?_⟩
  have e1 : (W.alloc o).cell? ⟨Bo, 0, none⟩ = some v := by rw [World.cell?_of_block (a := ⟨Bo, 0, none⟩) (Below.heap_alloc _ _ _ hlt)]; exact h1
  rw [e1] at hv
  obtain rfl := Option.some.inj hv
  obtain ⟨cur, t, fr, h3⟩ := h2 g hg
  have := size_of h3
  omega
theorem OutOk.alloc {Bo : Nat} {W : World} (ho : OutOk Bo W) (o : Obj) : OutOk Bo (W.alloc o) := by
  obtain ⟨v, h1, h2⟩ := ho
  refine ⟨v, by rw [World.cell?_of_block (a := ⟨Bo, 0, none⟩) (Below.heap_alloc _ _ _ (cell_size h1))]; exact h1, fun g hg => ?_⟩
  obtain ⟨cur, t, fr, h3⟩ := h2 g hg
  exact ⟨cur, t, fr, blk_alloc h3 _⟩
theorem nm_noncell {Bo : Nat} {W : World} (ho : OutOk Bo W) {l : Nat} {o : Obj} (hl : W.heap[l]? = some o) (hn : o.isCells = false) : NMine Bo W l := by
  obtain ⟨v, h1, h2⟩ := ho
  have hbc : ∃ cur t fr, W.heap[Bo]? = some (.cells cur t fr) := by
    unfold World.cell? at h1
    cases ho : W.heap[Bo]? with
    | none => simp [ho] at h1
    | some o => cases o <;> simp_all
  refine ⟨fun e => ?_, fun v' g hv hg e => ?_⟩
  · subst e
    obtain ⟨cur, t, fr, h⟩ := hbc
    rw [h] at hl
    obtain rfl := Option.some.inj hl
    cases hn
  · rw [h1] at hv
    obtain rfl := Option.some.inj hv
    obtain ⟨cur, t, fr, h⟩ := h2 g hg
    subst e
    rw [h] at hl
    obtain rfl := Option.some.inj hl
    cases hn
theorem yield_any {m m' : Nat} {P : Program} {l : Nat} {args : Array Value} {W : World} {R : Ending → World → Prop} (h : YieldAt Fence.wide m P l args W R) : YieldAt Fence.wide m' P l args W R := by
  obtain ⟨fn, tmps, assign, body, hy, h1, h2⟩ := h
  exact ⟨fn, tmps, assign, body, hy, h1, fun c cs _ => h2 c cs (room_wide _)⟩

/-- Blocks that are new since B and none of the body's may be turned. -/
def OwnN {β : Type} (Bo B : Nat) (J : β → World → Prop) : Prop := ∀ s W W' row, J s W → W.grownBy W' row → (∀ r, row = some r → B ≤ r ∧ NMine Bo W r) → J s W'
theorem OwnN.alloc {β : Type} {Bo B : Nat} {J : β → World → Prop} (h : OwnN Bo B J) {s : β} {W : World} (o : Obj) (hs : J s W) : J s (W.alloc o) :=
  h s W _ none hs (World.grownBy_alloc W o none) (fun r e => by cases e)
theorem OwnN.drew {β : Type} {Bo B : Nat} {J : β → World → Prop} (h : OwnN Bo B J) {s : β} {W : World} (hs : J s W) : J s W.drew :=
  h s W _ none hs ⟨rfl, rfl, rfl, Nat.le_refl _, fun _ _ _ => rfl⟩ (fun r e => by cases e)
theorem OwnN.putObj {β : Type} {Bo B : Nat} {J : β → World → Prop} (h : OwnN Bo B J) {s : β} {W : World} {l : Nat} (o' : Obj) (hs : J s W) (hB : B ≤ l) (hn : NMine Bo W l) : J s (W.putObj l o') :=
  h s W _ (some l) hs (grownBy_putObj' W l o') (fun r e => by cases e; exact ⟨hB, hn⟩)
theorem OwnN.setCell {β : Type} {Bo B : Nat} {J : β → World → Prop} (h : OwnN Bo B J) {s : β} {W : World} {b : Nat} (o : Nat) (v : Value) (hs : J s W) (hB : B ≤ b) (hn : NMine Bo W b) : J s (W.setCell ⟨b, o, none⟩ v) :=
  h s W _ (some b) hs ⟨rfl, rfl, rfl, by rw [World.size_setCell]; exact Nat.le_refl _, fun k _ hk => Below.heap_setCell _ _ _ _ (fun e => hk (by rw [e]))⟩ (fun r e => by cases e; exact ⟨hB, hn⟩)
theorem OwnN.and {β : Type} {Bo B : Nat} {I J : β → World → Prop} (h : OwnN Bo B I) (k : OwnN Bo B J) : OwnN Bo B (fun s W => I s W ∧ J s W) := fun s A C row hs hg hr => ⟨h s A C row hs.1 hg hr, k s A C row hs.2 hg hr⟩
theorem OwnN.mono {β : Type} {Bo B B' : Nat} {J : β → World → Prop} (h : OwnN Bo B J) (hB : B ≤ B') : OwnN Bo B' J := fun s A C row hs hg hr => h s A C row hs hg (fun r e => ⟨Nat.le_trans hB (hr r e).1, (hr r e).2⟩)
theorem ownN_kpo {β : Type} {Bo B : Nat} {W0 : World} (ho : OutOk Bo W0) (hB : W0.heap.size ≤ B) : OwnN Bo B (fun (_ : β) W => KpO Bo W0 W) := fun _ A C row hs hg hr =>
  hs.step ho hg.size (fun k hk => hg.block k (Nat.lt_of_lt_of_le hk hs.size) (fun e => by have := (hr k e.symm).1; omega))
set_option maxHeartbeats 400000 in
theorem range_all {α : Type} {P : Program} {n m : Nat} {g : Operand} {ps : Array Tmp} {assign body : Code} {Q : Exit → Act → World → Prop} {a : Act} {w : World} {gf : Nat} {lb : Array Value} {encs : α → Array Value} (Bo : Nat)
    (hg : a.eval g = .func (.func gf) #[] lb) (eg : ∀ args w, (callFunc gf args).run P w = .ok (.enter gf args) w) (hps : ∀ x, (encs x).size = ps.size)
    (I : List α → World → Prop) (N : Nat) (pre0 xs : List α) (hI : OwnN Bo w.heap.size I) (hO : ∀ pre W, I pre W → OutOk Bo W) (h0 : I pre0 w)
    (hit : ∀ J : List α → World → Prop, (∀ pre W, J pre W → I pre W) → OwnN Bo (w.heap.size + 2) J →
      (∀ pre x W, J pre W → pre.length < N → YieldAt Fence.wide m P (w.heap.size + 1) (encs x) W fun e W' => e = .returned (.bool true) ∧ J (pre ++ [x]) W' ∧ KpO Bo W W') →
      ∀ W o1 o2, W = (w.alloc o1).alloc o2 → J pre0 W → CallsIn Fence.wide m P gf (#[.func (.yield (w.heap.size + 1)) #[] #[]] ++ lb) W fun e W' => (∃ v, e = .returned v) ∧ J xs W' ∧ KpO Bo W W')
    (Ax : α → Act → World → Prop) (hAx : ∀ x a', OwnFrom w.heap.size (fun (_ : Unit) W => Ax x a' W))
    (hassign : ∀ (pre : List α) (x : α) (W : World) (K : Act → World → Prop), w.heap.size ≤ W.heap.size → I pre W → (∀ a' W', KpO Bo W W' → I pre W' → Ax x a' W' → K a' W') →
      assign.wpIn (Fence.wide.inRound (w.heap.size + 1)) m P (Exit.then K (fun _ _ _ => False)) { tmps := (ps.zip (encs x)).foldl (fun t (p, v) => t.setIfInBounds p v) a.tmps, defers := [] } W)
    (hbody : ∀ (pre : List α) (x : α) (a' : Act) (W : World), w.heap.size ≤ W.heap.size → pre.length < N → I pre W → Ax x a' W → body.wpIn (Fence.wide.inRound (w.heap.size + 1)) m P (fun e _ W' => e = .normal ∧ KpO Bo W W' ∧ I (pre ++ [x]) W') a' W)
    (hdone : ∀ W : World, I xs W → KpO Bo w W → W.heap[w.heap.size]? = some (.deferred (some [])) → Q .normal { a with defers := { target := .collected w.heap.size, args := #[] } :: a.defers } W) :
    (Code.rangeFunc g ps assign body).wpIn Fence.wide n P Q a w := by
  refine wpIn_rangeFunc ?_
  intro fn hfn
  obtain ⟨rec, hrec⟩ : ∃ rec : LoopState → Option Code → Loop, rec = fun st pe => { state := st, pending := pe, fn, tmps := a.tmps, params := ps, assign, body, defers := w.heap.size } := ⟨_, rfl⟩
  obtain ⟨W1, hW1⟩ : ∃ W1, (w.alloc (.deferred (some []))).alloc (.loop (rec .ready none)) = W1 := ⟨_, rfl⟩
  have hsz : W1.heap.size = w.heap.size + 2 := by rw [← hW1, World.size_alloc, World.size_alloc]
  have hL1 : W1.heap[w.heap.size + 1]? = some (.loop (rec .ready none)) := by rw [← hW1]; exact blk_new' _ _ _ (World.size_alloc _ _).symm
  have hD1 : W1.heap[w.heap.size]? = some (.deferred (some [])) := by rw [← hW1]; exact blk_alloc (blk_new _ _) _
  have hI1 : I pre0 W1 := by rw [← hW1]; exact hI.alloc _ (hI.alloc _ h0)
  have hk1 : KpO Bo w W1 := by rw [← hW1]; exact ((KpO.refl Bo w).alloc (hO _ _ h0) _).alloc (hO _ _ h0) _
  have callee : CallsIn Fence.wide m P gf (#[.func (.yield (w.heap.size + 1)) #[] #[]] ++ lb) W1 fun e W' => (∃ v, e = .returned v) ∧
      (I xs W' ∧ W'.heap[w.heap.size + 1]? = some (.loop (rec .ready none)) ∧ W'.heap[w.heap.size]? = some (.deferred (some [])) ∧ w.heap.size + 2 ≤ W'.heap.size) ∧ KpO Bo W1 W' := by
    refine hit (fun pre W => I pre W ∧ W.heap[w.heap.size + 1]? = some (.loop (rec .ready none)) ∧ W.heap[w.heap.size]? = some (.deferred (some [])) ∧ w.heap.size + 2 ≤ W.heap.size) (fun pre W h => h.1) ?_ ?_ W1 _ _ hW1.symm ⟨hI1, hL1, hD1, by omega⟩
    · rintro s A C row ⟨q1, q2, q3, q4⟩ hgr hr
      refine ⟨hI s A C row q1 hgr (fun r e => ⟨by have := (hr r e).1; omega, (hr r e).2⟩), ?_, ?_, Nat.le_trans q4 hgr.size⟩
      · rw [hgr.block _ (by omega) (fun e => by have := (hr _ e.symm).1; omega)]; exact q2
      · rw [hgr.block _ (by omega) (fun e => by have := (hr _ e.symm).1; omega)]; exact q3
    · rintro pre x W ⟨hi, hl, hd, hs⟩ hlen
      have hy := run_yield (P := P) (args := encs x) hl (by rw [hrec]; exact hps x)
      rw [hrec] at hy
      refine ⟨fn, _, assign, body, hy, roundIn_of_wpIn hfn (hassign pre x W _ (by omega) hi ?_)⟩
      intro a' Wa hka hia hax
      have hla := (hka.same _ _ hl (nm_noncell (hO _ _ hi) hl rfl)).1
      have hda := (hka.same _ _ hd (nm_noncell (hO _ _ hi) hd rfl)).1
      refine ⟨_, run_beginRound hla (by rw [hrec]), ?_⟩
      have hlt := size_of hla
      have hlb : (Wa.putObj (w.heap.size + 1) (.loop { rec .ready none with state := .busy })).heap[w.heap.size + 1]? = some (.loop { rec .ready none with state := .busy }) := World.putObj_heap_same hlt
      have hdb : (Wa.putObj (w.heap.size + 1) (.loop { rec .ready none with state := .busy })).heap[w.heap.size]? = some (.deferred (some [])) := (World.putObj_heap_other (by omega)).trans hda
      have hib := hI.putObj (.loop { rec .ready none with state := .busy }) hia (by omega : w.heap.size ≤ w.heap.size + 1) (nm_noncell (hO _ _ hia) hla rfl)
      have hsb : w.heap.size ≤ (Wa.putObj (w.heap.size + 1) (.loop { rec .ready none with state := .busy })).heap.size := by have := size_of hdb; omega
      refine wpIn_mono (hbody pre x a' _ hsb hlen hib ((hAx x a').putObj (s := ()) _ hax (by omega) hla rfl)) ?_
      rintro e a3 W3 ⟨rfl, hk3, hi3⟩
      have hl3 := (hk3.same _ _ hlb (nm_noncell (hO _ _ hib) hlb rfl)).1
      have hd3 := (hk3.same _ _ hdb (nm_noncell (hO _ _ hib) hdb rfl)).1
      have hend := run_endRound (P := P) none hl3
      rw [hrec] at hend
      refine ⟨_, _, hend, rfl, ⟨hI.putObj _ hi3 (by omega) (nm_noncell (hO _ _ hi3) hl3 rfl), ?_, ?_, ?_⟩, ?_⟩
      · have := World.putObj_heap_same (o := .loop { rec .ready none with state := .ready }) (size_of hl3)
        rw [hrec] at this ⊢
        exact this
      · exact (World.putObj_heap_other (by omega)).trans hd3
      · simp
        have := size_of hl3
        have := hka.size
        have := hk3.size
        simp at this
        omega
      · refine ⟨by have := hka.size; have h2 := hk3.size; simp at h2 ⊢; omega, fun k o hk hn => ?_⟩
        by_cases e : k = w.heap.size + 1
        · subst e
          rw [hl] at hk
          obtain rfl := Option.some.inj hk
          have h4 := World.putObj_heap_same (o := .loop { rec .ready none with state := .ready }) (size_of hl3)
          rw [hrec] at h4
          refine ⟨by rw [hrec]; exact h4, nm_noncell (hO _ _ (hI.putObj _ hi3 (by omega) (nm_noncell (hO _ _ hi3) hl3 rfl))) h4 rfl⟩
        · obtain ⟨a1, a2⟩ := hka.same k o hk hn
          have hne : Bo ≠ w.heap.size + 1 := fun e2 => (nm_noncell (hO _ _ hia) hla rfl).1 e2.symm
          have b1 : (Wa.putObj (w.heap.size + 1) (.loop { rec .ready none with state := .busy })).heap[k]? = some o := (World.putObj_heap_other e).trans a1
          have b2 : NMine Bo (Wa.putObj (w.heap.size + 1) (.loop { rec .ready none with state := .busy })) k := nm_block (World.putObj_heap_other hne) a2
          obtain ⟨c1, c2⟩ := hk3.same k o b1 b2
          exact ⟨(World.putObj_heap_other e).trans c1, nm_block (World.putObj_heap_other hne) c2⟩
  have henter : (Instr.enterLoop fn a.tmps ps assign body none).run P w = .ok (w.heap.size + 1, [{ target := .collected w.heap.size, args := #[] }]) W1 := by
    rw [← hW1, hrec]; exact run_enterLoop_outer _ _ _ _ _
  have callee2 : CallsIn Fence.wide (n - 1) P gf (#[.func (.yield (w.heap.size + 1)) #[] #[]] ++ lb) W1 (rangePost Fence.wide n P (w.heap.size + 1) Q { a with defers := [{ target := .collected w.heap.size, args := #[] }] ++ a.defers }) := by
    refine callsIn_wide.2 (Calls.mono (callsIn_wide.1 callee) ?_)
    rintro e W2 ⟨⟨v, rfl⟩, ⟨hi, hl, hd, hs⟩, hk⟩
    have hend := run_endLoop (P := P) hl (by rw [hrec]; simp)
    rw [hrec] at hend
    refine ⟨none, _, hend, hdone _ (hI.putObj _ hi (by omega) (nm_noncell (hO _ _ hi) hl rfl)) ?_ ?_⟩
    · exact (hk1.trans hk).putNew (hO _ _ h0) (by omega) _
    · exact (World.putObj_heap_other (by omega)).trans hd
  have hres : (resolve a.eval (rangeCall g (w.heap.size + 1)) 0).run P W1 = .ok { target := .fn (.func gf) lb, args := #[.func (.yield (w.heap.size + 1)) #[] #[]] } W1 := by
    simp only [resolve, hg]
    simp [go_sem]
  have hinv : (invoke (.fn (.func gf) lb) #[.func (.yield (w.heap.size + 1)) #[] #[]]).run P W1 = .ok (.enter gf (#[.func (.yield (w.heap.size + 1)) #[] #[]] ++ lb)) W1 := by
    simp [invoke, go_sem, eg]
  refine ⟨w.heap.size + 1, [{ target := .collected w.heap.size, args := #[] }], W1, { target := .fn (.func gf) lb, args := #[.func (.yield (w.heap.size + 1)) #[] #[]] }, W1, gf,
    #[.func (.yield (w.heap.size + 1)) #[] #[]] ++ lb, W1, ?_⟩
  refine And.intro henter ?_
  refine And.intro hres ?_
  refine And.intro (fun _ _ => True.intro) ?_
  refine And.intro hinv ?_
  refine And.intro (fun h => absurd h (by decide)) ?_
  exact callee2
/-- The activation in which the body is walked: the loop's variable lies in a box. -/
def boxAct (a : Act) (ps : Array Tmp) (vs : Array Value) (z Bz : Nat) : Act :=
  { tmps := ((ps.zip vs).foldl (fun t (p, v) => t.setIfInBounds p v) a.tmps).setIfInBounds z (.pointer (some ⟨Bz, 0, none⟩)), defers := [] }
theorem ownFrom_blk {β : Type} (B b : Nat) (cs : List Value) (t : TypeId) (p : Prop) : OwnFrom B (fun (_ : β) W => W.heap[b]? = some (.cells cs.toArray t (0, 0)) ∧ p) := fun _ A C row hs hg hr =>
  ⟨(hg.block b (size_of hs.1) (fun e => by
    obtain ⟨_, o, ho, hc⟩ := hr b e.symm
    rw [hs.1] at ho
    obtain rfl := Option.some.inj ho
    cases hc)).trans hs.1, hs.2⟩
theorem range_box {α : Type} {P : Program} {n m : Nat} {g : Operand} {ps : Array Tmp} {assign body : Code} {Q : Exit → Act → World → Prop} {a : Act} {w : World} {gf : Nat} {lb : Array Value} {encs : α → Array Value} (Bo z : Nat) (cz : α → List Value) (tz : TypeId)
    (hg : a.eval g = .func (.func gf) #[] lb) (eg : ∀ args w, (callFunc gf args).run P w = .ok (.enter gf args) w) (hps : ∀ x, (encs x).size = ps.size)
    (I : List α → World → Prop) (N : Nat) (pre0 xs : List α) (hI : OwnN Bo w.heap.size I) (hO : ∀ pre W, I pre W → OutOk Bo W) (h0 : I pre0 w)
    (hit : ∀ J : List α → World → Prop, (∀ pre W, J pre W → I pre W) → OwnN Bo (w.heap.size + 2) J →
      (∀ pre x W, J pre W → pre.length < N → YieldAt Fence.wide m P (w.heap.size + 1) (encs x) W fun e W' => e = .returned (.bool true) ∧ J (pre ++ [x]) W' ∧ KpO Bo W W') →
      ∀ W o1 o2, W = (w.alloc o1).alloc o2 → J pre0 W → CallsIn Fence.wide m P gf (#[.func (.yield (w.heap.size + 1)) #[] #[]] ++ lb) W fun e W' => (∃ v, e = .returned v) ∧ J xs W' ∧ KpO Bo W W')
    (hassign : ∀ (pre : List α) (x : α) (W : World) (K : Act → World → Prop), w.heap.size ≤ W.heap.size → K (boxAct a ps (encs x) z W.heap.size) (W.alloc (.cells (cz x).toArray tz (0, 0))) →
      assign.wpIn (Fence.wide.inRound (w.heap.size + 1)) m P (Exit.then K (fun _ _ _ => False)) { tmps := (ps.zip (encs x)).foldl (fun t (p, v) => t.setIfInBounds p v) a.tmps, defers := [] } W)
    (hbody : ∀ (pre : List α) (x : α) (Bz : Nat) (W : World), w.heap.size ≤ W.heap.size → pre.length < N → I pre W → W.heap[Bz]? = some (.cells (cz x).toArray tz (0, 0)) → body.wpIn (Fence.wide.inRound (w.heap.size + 1)) m P (fun e _ W' => e = .normal ∧ KpO Bo W W' ∧ I (pre ++ [x]) W') (boxAct a ps (encs x) z Bz) W)
    (hdone : ∀ W : World, I xs W → KpO Bo w W → W.heap[w.heap.size]? = some (.deferred (some [])) → Q .normal { a with defers := { target := .collected w.heap.size, args := #[] } :: a.defers } W) :
    (Code.rangeFunc g ps assign body).wpIn Fence.wide n P Q a w := by
  refine range_all (m := m) Bo hg eg hps I N pre0 xs hI hO h0 hit (fun x a' W => ∃ Bz, W.heap[Bz]? = some (.cells (cz x).toArray tz (0, 0)) ∧ a' = boxAct a ps (encs x) z Bz) ?_ ?_ ?_ hdone
  · rintro x a' s A C row ⟨Bz, hb⟩ hg hr
    exact ⟨Bz, ownFrom_blk _ Bz (cz x) tz (a' = boxAct a ps (encs x) z Bz) () A C row hb hg hr⟩
  · intro pre x W K hs hi hK
    exact hassign pre x W K hs (hK _ _ ((KpO.refl Bo W).alloc (hO _ _ hi) _) (hI pre W (W.alloc (.cells (cz x).toArray tz (0, 0))) none hi (World.grownBy_alloc W _ none) (fun r e => by cases e)) ⟨_, blk_new _ _, rfl⟩)
  · rintro pre x a' W hs hlen hi ⟨Bz, hb, rfl⟩
    exact hbody pre x Bz W hs hlen hi hb
end Go.Proofs.Ytkofjejdgdhapaa
