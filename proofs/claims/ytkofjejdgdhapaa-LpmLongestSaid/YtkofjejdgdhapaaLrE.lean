/- lpm: All. -/
import Derived.Test.YtkofjejdgdhapaaLrD
import Derived.Test.YtkofjejdgdhapaaApp
import Derived.Maps.AppendAt
namespace Go.Proofs.Ytkofjejdgdhapaa
open Go.RowKit Go.Shelf
attribute [local go_sem] Oper.semAt_some

abbrev flatP (l : List Pf) : List Value := l.flatMap cP
/-- What All has gathered. -/
def OutAt (w0 : World) (Bo : Nat) (ys : List Pf) (W : World) : Prop :=
  Below w0.heap.size w0 W ∧ ∃ v, W.heap[Bo]? = some (.cells #[v] 36 (0, 0)) ∧ W.ownsRow w0.heap.size 30 2 v ys.length (flatP ys) ∧ v.ownBlock ≠ some Bo
theorem own_isCells {W : World} {base e size n : Nat} {v : Value} {xs : List Value} (h : W.ownsRow base e size v n xs) : ∀ g, v.ownBlock = some g → ∃ cur t fr, W.heap[g]? = some (.cells cur t fr) := by
  intro g hg
  rcases h.2 with ⟨rfl, _⟩ | ⟨g', cap, cur, rfl, _, hb, _⟩
  · simp [Value.ownBlock] at hg
  · simp [Value.ownBlock] at hg
    subst hg
    exact ⟨_, _, _, hb⟩
theorem OutAt.ok {w0 W : World} {Bo : Nat} {ys : List Pf} (h : OutAt w0 Bo ys W) : OutOk Bo W := by
  obtain ⟨_, v, h1, h2, _⟩ := h
  exact ⟨v, cell_of h1 rfl, own_isCells h2⟩
theorem OutAt.own {w0 : World} {Bo B : Nat} (hB : w0.heap.size ≤ B) : OwnN Bo B (OutAt w0 Bo) := by
  rintro s A C row ⟨h1, v, h2, h3, h4⟩ hg hr
  have hv : A.cell? ⟨Bo, 0, none⟩ = some v := cell_of h2 rfl
  refine ⟨h1.grown hg h1.size (fun r e => Nat.le_trans hB (hr r e).1), v, (hg.block Bo (size_of h2) (fun e => (hr _ e.symm).2.1 rfl)).trans h2, owns_block h3 (fun g hg' => hg.block g (h3.lt g hg').2 (fun e => (hr _ e.symm).2.2 v g hv hg' rfl)), h4⟩
theorem infoPf : (Try.prog.info? 30).map (fun i => (i.zero, i.size, i.bytes)) = some (some (.agg #[.int .u32 0, .int .i64 0]), 2, 16) := by kernel_rfl
theorem flatP_snoc (ys : List Pf) (x : Pf) : flatP ys ++ cP x = flatP (ys ++ [x]) := by simp [flatP]
theorem wpListIn_app {P : Program} {F : Fence} {n : Nat} (w : World) {ops : Array Oper} {rest : List Oper} {o : Oper} {a : Act} {Q : Exit → Act → World → Prop} (hgd : o.guard = none) (s x : Operand) (t : TypeId)
    (ho : o.op = .call { callee := .builtin .append, args := #[s, x], argTypes := #[t, t] })
    (base : Nat) (e : TypeId) (i : TypeInfo) (z : Value) (size bytes : Nat) (ht : P.underlying t = some (.slice e)) (hi : P.info? e = some i) (hz : i.zero = some z)
    (hsize : i.size = size) (hby : i.bytes = bytes) (hzs : z.cells.size = size) (hsz : 0 < size)
    (v : Value) (k : Nat) (xs : List Value) (hs : a.eval s = v) (hown : w.ownsRow base e size v k xs)
    (A : Option Addr) (m c : Nat) (news : List Value) (hx : a.eval x = .slice A m c) (hr : Src w size A m news) (h1 : ∀ u ∈ news, u.oneCell' = true)
    (h63 : k + m ≤ maxLen) (hbytes : (k + m) * bytes ≤ 140737488355328) (hbase : base ≤ w.heap.size)
    (h : ∀ v' w', w'.ownsRow base e size v' (k + m) (xs ++ news) → w.grownBy w' v.ownBlock → (v'.ownBlock = v.ownBlock ∨ v'.ownBlock = some w.heap.size) → wpListIn F n P ops Q rest (a.put o.dst v') w') : wpListIn F n P ops Q (o :: rest) a w := by
  obtain ⟨v', w', hrun, h2, h3, h4⟩ := run_app (P := P) w base t o.type e i z size bytes ht hi hz hsize hby hzs hsz v k xs hown A m c news hr h1 h63 hbytes hbase
  refine wpListIn_plain hgd fun K hK => ?_
  unfold Oper.wpIn
  refine ⟨by simp [Oper.about, ho, resolve, Target.leads, Sem.run_pure], ?_⟩
  rw [Oper.semAt_plain F a.eval o (by rw [ho]; intro c hc; cases hc)]
  have hex : (execOp a.eval o).run P w = .ok (.value v') w' := by
    simp only [execOp, ho, resolve, invoke, builtin, Sem.run_bind, Sem.run_pure, Result.andThen_ok, List.map_toArray, List.map_cons, List.map_nil, hs, hx, hrun]
  rw [hex]
  exact hK _ _ (h v' w' h2 h3 h4)
theorem out_append {w0 W W1 W2 : World} {Bo : Nat} {ys : List Pf} {x : Pf} {v v' : Value} (hb : Below w0.heap.size w0 W) (hv : W.heap[Bo]? = some (.cells #[v] 36 (0, 0))) (hB : w0.heap.size ≤ Bo) (hn : v.ownBlock ≠ some Bo) (ho : W.ownsRow w0.heap.size 30 2 v ys.length (flatP ys))
    (hW1 : W1 = W.alloc (.cells (cP x).toArray 30 (0, 0))) (h2 : W2.ownsRow w0.heap.size 30 2 v' (ys.length + 1) (flatP ys ++ cP x)) (hg : W1.grownBy W2 v.ownBlock) (hob : v'.ownBlock = v.ownBlock ∨ v'.ownBlock = some W1.heap.size) :
    OutAt w0 Bo (ys ++ [x]) (W2.setCell ⟨Bo, 0, none⟩ v') ∧ KpO Bo W (W2.setCell ⟨Bo, 0, none⟩ v') := by
  have hBl := size_of hv
  have hs1 : W1.heap.size = W.heap.size + 1 := by rw [hW1, World.size_alloc]
  have hb1 : ∀ k, k < W.heap.size → W1.heap[k]? = W.heap[k]? := fun k hk => by rw [hW1]; exact Below.heap_alloc _ _ _ hk
  have hbe1 : Below w0.heap.size w0 W1 := by rw [hW1]; exact hb.alloc hb.size _
  have hn' : v'.ownBlock ≠ some Bo := by
    rcases hob with e | e
    · rw [e]; exact hn
    · rw [e]; intro e2; have := Option.some.inj e2; omega
  have hv2 : W2.heap[Bo]? = some (.cells #[v] 36 (0, 0)) := (hg.block Bo (by omega) (fun e => hn e.symm)).trans ((hb1 Bo hBl).trans hv)
  have hv3 := blk_set hv2 0 v'
  refine ⟨⟨((hbe1.grown hg hbe1.size (fun k e => (ho.lt k e).1)).setCell hB _), v', hv3, ?_, hn'⟩, by have := hg.size; rw [World.size_setCell]; omega, fun k o hk hnm => ?_⟩
  · rw [← flatP_snoc, List.length_append]
    exact owns_block h2 (fun g hg' => Below.heap_setCell _ _ _ _ (fun e => hn' (by rw [hg', show g = Bo from e])))
  · have hkl := size_of hk
    have hne : v.ownBlock ≠ some k := fun e => hnm.2 v k (cell_of hv rfl) e rfl
    refine ⟨?_, hnm.1, fun u g hu hug e => ?_⟩
    · rw [Below.heap_setCell _ _ _ _ (show k ≠ Bo from hnm.1), hg.block k (by omega) (fun e => hne e.symm), hb1 k hkl]; exact hk
    · have : (W2.setCell ⟨Bo, 0, none⟩ v').cell? ⟨Bo, 0, none⟩ = some v' := cell_of hv3 rfl
      rw [this] at hu
      obtain rfl := Option.some.inj hu
      subst e
      rcases hob with e2 | e2
      · exact hne (e2 ▸ hug)
      · rw [e2] at hug; have := Option.some.inj hug; omega
theorem out_box {W W1 W2 : World} {Bo : Nat} {v : Value} (hv : W.heap[Bo]? = some (.cells #[v] 36 (0, 0))) {o : Obj} (hW1 : W1 = W.alloc o) (hg : W1.grownBy W2 v.ownBlock) (hn : v.ownBlock ≠ some Bo) : W2.heap[Bo]? = some (.cells #[v] 36 (0, 0)) :=
  (hg.block Bo (by rw [hW1, World.size_alloc]; have := size_of hv; omega) (fun e => hn e.symm)).trans (by rw [hW1]; exact blk_alloc hv _)
theorem own_slice {w : World} {base : Nat} {e : TypeId} {size : Nat} {v : Value} {n : Nat} {xs : List Value} (h : w.ownsRow base e size v n xs) : ∃ a c, v = .slice a n c := by
  rcases h.2 with ⟨rfl, rfl⟩ | ⟨g, cap, _, rfl, _⟩
  · exact ⟨_, _, rfl⟩
  · exact ⟨_, _, rfl⟩

theorem ne_noncell {W : World} {base e size n : Nat} {v : Value} {xs : List Value} (h : W.ownsRow base e size v n xs) {g d : Nat} (hg : v.ownBlock = some g) {o : Obj} (hd : W.heap[d]? = some o) (ho : o.isCells = false) : g ≠ d := by
  intro e
  subst e
  obtain ⟨cur, t, fr, h3⟩ := own_isCells h g hg
  rw [h3] at hd
  obtain rfl := Option.some.inj hd
  cases ho
theorem it_root (w0 : World) (tb : Nat) (nd : Nd) (l : Nets) (room many : Int) (hT : TreeAt w0 tb nd l room many) (Bo f : Nat) (hf : f = 33) (xs : List Pf) (hxs : underN l f 0 0 = xs) (hN : xs.length ≤ 100000) (m lr Bx Bp : Nat) (J : List Pf → World → Prop) (W : World) (hG : Grd w0 Bo J) (hJo : OwnN Bo W.heap.size J) (hY : YieldTo Bo lr 100000 J) (hJ : J [] W)
    (hx : Own1 Bo W Bx [.pointer (some ⟨tb, 0, none⟩)] 56) (hp : Own1 Bo W Bp [.int .u32 0, .int .i64 0] 30) :
    CallsIn Fence.wide m Try.prog 40 (#[.func (.yield lr) #[] #[]] ++ #[.pointer (some ⟨Bx, 0, none⟩), .pointer (some ⟨Bp, 0, none⟩)]) W fun e W' => (∃ v, e = .returned v) ∧ J xs W' ∧ KpO Bo W W' := by
  subst hxs
  have := it_all w0 tb nd l room many hT Bo 100000 f 0 0 (some ⟨tb, 0, none⟩) (by omega) (by rw [hT.root]; rfl) m lr Bx Bp (.int .u32 0, .int .i64 0) J [] W hG hJo hY hJ (by rw [List.length_nil]; omega) hx hp (fun _ => by rw [Nat.zero_mul]; rfl)
  rw [List.nil_append] at this
  exact this
set_option maxRecDepth 100000 in
set_option maxHeartbeats 2000000 in
theorem all_calls (tb : Nat) (nd : Nd) (l : Nets) (room many : Int) (w : World) (h : TreeAt w tb nd l room many) (f : Nat) (hf : f = 33) (xs : List Pf) (hxs : underN l f 0 0 = xs) (hN : xs.length ≤ 100000) :
    Calls Try.prog 14 #[.pointer (some ⟨tb, 0, none⟩)] w fun e w' => ∃ v, e = .returned v ∧ w'.ownsRow w.heap.size 30 2 v xs.length (flatP xs) ∧ Below w.heap.size w w' := by
  obtain ⟨i0, hi0, hz0, hz1, hz2⟩ := info_parts infoPf
  have HT := Lib.hid h
  have htl := h.lt_of h.root
  have hroot := h.root
  have HF := Lib.hid (And.intro hf hxs)
  clear h hroot hf hxs
  refine (callsIn_wide (n := 3)).1 ?_
  refine callsIn_of_wp_marks Try.func14 rfl trivial ?_ rfl
  simp only [Try.ntmps14, List.size_toArray, List.length_cons, List.length_nil, Nat.reduceAdd, Nat.reduceSub, Array.replicate_succ, Array.replicate_zero, List.push_toArray, List.append_toArray, List.nil_append, List.cons_append]
  gi_wp2_with (fail)
  refine ⟨trivial, (callsIn_wide.2 (nets_calls (some ⟨tb, 0, none⟩) (_, _) _)).mono ?_⟩
  rintro e w3 ⟨rfl, rfl⟩
  gi_wp2_with (fail)
  have hs1 := World.size_alloc w (.cells #[.slice none 0 0] 36 (0, 0))
  have hO1 : OutAt w w.heap.size [] (w.alloc (.cells #[.slice none 0 0] 36 (0, 0))) := ⟨(Below.refl _ _).alloc (Nat.le_refl _) _, .slice none 0 0, blk_new _ _, World.ownsRow_nil _ _ _ _, by simp [Value.ownBlock]⟩
  generalize w.alloc (.cells #[.slice none 0 0] 36 (0, 0)) = V at hs1 hO1 ⊢
  obtain ⟨W3, hW3⟩ : ∃ W3, W3 = (V.alloc (.cells #[.pointer (some ⟨tb, 0, none⟩)] 56 (0, 0))).alloc (.cells #[.int .u32 0, .int .i64 0] 30 (0, 0)) := ⟨_, rfl⟩
  rw [← hW3]
  have hJo : OwnN w.heap.size w.heap.size (OutAt w w.heap.size) := OutAt.own (Nat.le_refl _)
  have hE : Env w w.heap.size 0 0 w.heap.size (OutAt w w.heap.size) := ⟨fun pre W h => ⟨h.1, h.ok⟩, hJo, fun m pre x W _ hl => by omega⟩
  obtain ⟨hJ3, hK3, hx3, hp3, hs3⟩ := two_boxes hE hO1 (some ⟨tb, 0, none⟩) (.int .u32 0) (.int .i64 0) hW3
  rw [hs1] at hx3 hp3
  have hit := fun (J' : List Pf → World → Prop) (h1 : ∀ pre W, J' pre W → OutAt w w.heap.size pre W) (h2 : OwnN w.heap.size (W3.heap.size + 2) J')
      (h3 : ∀ pre x W, J' pre W → pre.length < 100000 → YieldAt Fence.wide 3 Try.prog (W3.heap.size + 1) (encP x) W fun e W' => e = .returned (.bool true) ∧ J' (pre ++ [x]) W' ∧ KpO w.heap.size W W') (W : World) (o1 o2 : Obj) (hW : W = (W3.alloc o1).alloc o2) (h4 : J' [] W) =>
    it_root w tb nd l room many HT.out w.heap.size f HF.out.1 xs HF.out.2 hN 3 (W3.heap.size + 1) (w.heap.size + 1) (w.heap.size + 1 + 1) J' W (fun pre W h => ⟨(h1 pre W h).1, (h1 pre W h).ok⟩)
      (by have : W.heap.size = W3.heap.size + 2 := by rw [hW, World.size_alloc, World.size_alloc]
          rw [this]; exact h2) (fun m' pre x W h hl => yield_any (h3 pre x W h hl)) h4
      (hx3.kp (by rw [hW]; exact ((KpO.refl _ W3).alloc hJ3.ok _).alloc hJ3.ok _)) (hp3.kp (by rw [hW]; exact ((KpO.refl _ W3).alloc hJ3.ok _).alloc hJ3.ok _))
  refine range_box (m := 3) (n := 3) (encs := encP) w.heap.size 4 cP 30 rfl (enters_of Try.func40 (by kernel_rfl) rfl) (fun _ => rfl) (OutAt w w.heap.size) 100000 [] xs ?hI ?hO hJ3 ?hit ?assign ?body ?done
  case hI => exact OutAt.own (by omega)
  case hO => exact fun pre W h => h.ok
  case hit => exact hit
  case assign =>
    intro pre' x W' K hs hK
    simp [boxAct, encP, cP] at hK
    simp only [encP]
    gi_wp2_with (fail)
    exact hK
  case body =>
    rintro pre' x Bz W' hs hlen ⟨hb, v, hv, ho, hn⟩ hz
    obtain ⟨z0, z1, -⟩ := cells_all hz
    simp only [Nat.reduceAdd] at z1
    have zz := size_of hz
    have vc : W'.cell? ⟨w.heap.size, 0, none⟩ = some v := cell_of hv rfl
    have vz := size_of hv
    have vf := frz hv 0
    obtain ⟨av, cv, rfl⟩ := own_slice ho
    have HW := Lib.hid (And.intro hb (And.intro hv (And.intro ho hn)))
    have hm1 : pre'.length + 1 ≤ maxLen := by unfold maxLen; omega
    have hm2 : (pre'.length + 1) * 16 ≤ 140737488355328 := by omega
    have hbz : w.heap.size ≤ (W'.alloc (.cells (cP x).toArray 30 (0, 0))).heap.size := by rw [World.size_alloc]; omega
    have hsrc : Src (W'.alloc (.cells (cP x).toArray 30 (0, 0))) 2 (some ⟨W'.heap.size, 0, none⟩) 1 (cP x) := ⟨rfl, (fun e => by cases e), fun ad e j u hu => by
      have e2 := Option.some.inj e
      subst e2
      exact new_cells W' (cP x) _ j u hu⟩
    have h1c : ∀ u ∈ cP x, u.oneCell' = true := by
      intro u hu
      simp only [cP, List.mem_cons, List.not_mem_nil, or_false] at hu
      rcases hu with rfl | rfl <;> rfl
    have HSRC := Lib.hid (And.intro hsrc h1c)
    clear hb hv ho hn hsrc h1c
    simp [boxAct, encP]
    gi_wp2_with ((gi_at_builtin; refine wpListIn_app _ rfl (.tmp 11) (.tmp 13) 36 rfl w.heap.size 30 i0 _ 2 16 Try.underlying36 hi0 hz0 hz1 hz2 rfl (by decide) (.slice av pre'.length cv) pre'.length (flatP pre') rfl (HW.out.2.2.1.alloc _) (some ⟨W'.heap.size, 0, none⟩) 1 1 (cP x) rfl HSRC.out.1 HSRC.out.2 hm1 hm2 hbz ?_; intro v' w2 hown hg hob; have hv2 := out_box HW.out.2.1 rfl hg HW.out.2.2.2; have vc2 := cell_of (v := .slice av pre'.length cv) (o := 0) hv2 rfl; have vz2 := size_of hv2; have vf2 := frz hv2 0; obtain ⟨a', c', hv'⟩ := own_slice hown; subst hv'; have HA := Lib.hid (out_append HW.out.1 HW.out.2.1 (Nat.le_refl _) HW.out.2.2.2 HW.out.2.2.1 rfl hown hg hob); clear hown hg hob hv2))
    first | exact ⟨rfl, HA.out.2, HA.out.1⟩ | exact ⟨HA.out.2, HA.out.1⟩
  case done =>
    rintro W' ⟨hb, v, hv, ho, hn⟩ hkw hD
    have vc : W'.cell? ⟨w.heap.size, 0, none⟩ = some v := cell_of hv rfl
    have vz := size_of hv
    obtain ⟨av, cv, rfl⟩ := own_slice ho
    have HD := Lib.hid hD
    have HW := Lib.hid (And.intro hb ho)
    have HS3 := Lib.hid hs3
    have HS1 := Lib.hid hs1
    clear hD hb ho hv hn hkw hx3 hp3 hK3 hJ3 hE hJo hW3 hO1 hs1 hs3 hit
    gi_wp2_with (fail)
    have hown : (W'.putObj W3.heap.size (.deferred none)).ownsRow w.heap.size 30 2 (.slice av xs.length cv) xs.length (flatP xs) := owns_block HW.out.2 (fun g hg => World.putObj_heap_other (ne_noncell HW.out.2 hg HD.out rfl))
    have hbel : Below w.heap.size w (W'.putObj W3.heap.size (.deferred none)) := HW.out.1.trans (belowK_b (w := w) (Nat.le_refl _) W' _ _ _ (by have := HS3.out; have := HS1.out; omega) HD.out rfl rfl)
    refine ⟨by simp, .inl ⟨_, _, rfl, run_takeDeferred HD.out, ?_⟩⟩
    exact ⟨_, results_tmp rfl _ _ _, .slice av xs.length cv, rfl, hown, hbel⟩
end Go.Proofs.Ytkofjejdgdhapaa
