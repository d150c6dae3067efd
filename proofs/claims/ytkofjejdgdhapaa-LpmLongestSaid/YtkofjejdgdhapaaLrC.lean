/- lpm: nets: the closure's contract. -/
import Derived.Test.YtkofjejdgdhapaaLrB
namespace Go.Proofs.Ytkofjejdgdhapaa
open Go.RowKit Go.Shelf
attribute [local go_sem] Oper.semAt_some

/-- What the iterator knows of the world wherever J holds. -/
def Grd (w0 : World) (Bo : Nat) (J : List Pf → World → Prop) : Prop := ∀ pre W, J pre W → Below w0.heap.size w0 W ∧ OutOk Bo W

/-- The closure's contract, f levels above the ground. -/
def ItOk (w0 : World) (nd : Nd) (l : Nets) (Bo N f : Nat) : Prop := ∀ (k v : Nat) (q : Option Addr), k + f = 33 → ptrV (nd k v) = .pointer q → ∀ (m lr Bx Bp : Nat) (p : Value × Value) (J : List Pf → World → Prop) (pre : List Pf) (W : World),
  Grd w0 Bo J → OwnN Bo W.heap.size J → YieldTo Bo lr N J → J pre W → pre.length + (underN l f k v).length ≤ N → Own1 Bo W Bx [.pointer q] 56 → Own1 Bo W Bp [p.1, p.2] 30 → ((nd k v).isSome = true → p = (.int .u32 ((v * 2 ^ (32 - k) : Nat) : Int), .int .i64 k)) →
  CallsIn Fence.wide m Try.prog 40 #[.func (.yield lr) #[] #[], .pointer (some ⟨Bx, 0, none⟩), .pointer (some ⟨Bp, 0, none⟩)] W (ItPost Bo J (pre ++ underN l f k v) W)
/-- What stands around an iterator's own ranges. -/
structure Env (w0 : World) (Bo lr N B : Nat) (J : List Pf → World → Prop) : Prop where
  grd : Grd w0 Bo J
  own : OwnN Bo B J
  yld : YieldTo Bo lr N J
theorem two_boxes {w0 : World} {Bo lr N B : Nat} {J : List Pf → World → Prop} (hE : Env w0 Bo lr N B J) {pre : List Pf} {V V' : World} (hJ : J pre V) (q : Option Addr) (p1 p2 : Value) (hV : V' = (V.alloc (.cells #[.pointer q] 56 (0, 0))).alloc (.cells #[p1, p2] 30 (0, 0))) :
    J pre V' ∧ KpO Bo V V' ∧ Own1 Bo V' V.heap.size [.pointer q] 56 ∧ Own1 Bo V' (V.heap.size + 1) [p1, p2] 30 ∧ V'.heap.size = V.heap.size + 2 := by
  subst hV
  have hO := (hE.grd _ _ hJ).2
  have hO1 := hO.alloc (.cells #[.pointer q] 56 (0, 0))
  have hs := World.size_alloc V (.cells #[.pointer q] 56 (0, 0))
  have hn := Own1.new hO1 [p1, p2] 30
  rw [hs] at hn
  exact ⟨hE.own.alloc _ (hE.own.alloc _ hJ), ((KpO.refl Bo V).alloc hO _).alloc hO _, (Own1.new hO [.pointer q] 56).kp ((KpO.refl Bo _).alloc hO1 _), hn, by rw [World.size_alloc, hs]⟩
/-- The inner range's contract, out of that of one level below. -/
theorem inner_it {w0 : World} {nd : Nd} {l : Nets} {Bo f lr N B : Nat} (ih : ItOk w0 nd l Bo N f) {J : List Pf → World → Prop} (hE : Env w0 Bo lr N B J) {pre : List Pf} {V : World} {k v : Nat} {q : Option Addr} (hk : k + f = 33) (hq : ptrV (nd k v) = .pointer q) (m Bx Bp : Nat) {p1 p2 : Value}
    (hx : Own1 Bo V Bx [.pointer q] 56) (hp : Own1 Bo V Bp [p1, p2] 30) (hpp : (nd k v).isSome = true → (p1, p2) = (.int .u32 ((v * 2 ^ (32 - k) : Nat) : Int), .int .i64 k)) (hN : pre.length + (underN l f k v).length ≤ N) :
    ∀ J' : List Pf → World → Prop, (∀ pre W, J' pre W → J pre W ∧ KpO Bo V W) → OwnN Bo (V.heap.size + 2) J' →
      (∀ pre x W, J' pre W → pre.length < N → YieldAt Fence.wide m Try.prog (V.heap.size + 1) (encP x) W fun e W' => e = .returned (.bool true) ∧ J' (pre ++ [x]) W' ∧ KpO Bo W W') →
      ∀ W o1 o2, W = (V.alloc o1).alloc o2 → J' pre W → CallsIn Fence.wide m Try.prog 40 (#[.func (.yield (V.heap.size + 1)) #[] #[]] ++ #[.pointer (some ⟨Bx, 0, none⟩), .pointer (some ⟨Bp, 0, none⟩)]) W fun e W' => (∃ v, e = .returned v) ∧ J' (pre ++ underN l f k v) W' ∧ KpO Bo W W' := by
  intro J' h1 h2 h3 W o1 o2 hW h4
  have hs : W.heap.size = V.heap.size + 2 := by rw [hW, World.size_alloc, World.size_alloc]
  have hkp := (h1 _ _ h4).2
  exact ih k v q hk hq m (V.heap.size + 1) Bx Bp (p1, p2) J' pre W (fun pre W h => hE.grd _ _ (h1 _ _ h).1) (by rw [hs]; exact h2) (fun m' pre x W h hl => yield_any (h3 pre x W h hl)) h4 hN (hx.kp hkp) (hp.kp hkp) hpp
theorem child0 {w : World} {tb : Nat} {nd : Nd} {l : Nets} {room many : Int} (h : TreeAt w tb nd l room many) {k v net : Nat} (hn : v * 2 ^ (32 - k) = net) :
    (nd (k + 1) (2 * v)).isSome = true → (Value.int .u32 net, Value.int .i64 ((k : Int) + 1)) = (.int .u32 ((2 * v * 2 ^ (32 - (k + 1)) : Nat) : Int), .int .i64 ((k + 1 : Nat) : Int)) := by
  intro hs
  obtain ⟨b, hb⟩ := Option.isSome_iff_exists.1 hs
  have hk := (h.lt _ _ _ hb).1
  have e : 2 * v * 2 ^ (32 - (k + 1)) = net := by
    rw [← hn, show 32 - k = (32 - (k + 1)) + 1 by omega, Nat.pow_succ, Nat.mul_comm 2 v, Nat.mul_assoc, Nat.mul_comm 2]
  rw [e]
  rfl
theorem child1 {w : World} {tb : Nat} {nd : Nd} {l : Nets} {room many : Int} (_h : TreeAt w tb nd l room many) {k v net : Nat} (hn : (2 * v + 1) * 2 ^ (32 - (k + 1)) = net) :
    (nd (k + 1) (2 * v + 1)).isSome = true → (Value.int .u32 net, Value.int .i64 ((k : Int) + 1)) = (.int .u32 (((2 * v + 1) * 2 ^ (32 - (k + 1)) : Nat) : Int), .int .i64 ((k + 1 : Nat) : Int)) := by
  intro _
  rw [hn]
  rfl
theorem child32 {w : World} {tb : Nat} {nd : Nd} {l : Nets} {room many : Int} (h : TreeAt w tb nd l room many) {k v net : Nat} (hk : 32 ≤ k) :
    (nd (k + 1) (2 * v + 1)).isSome = true → (Value.int .u32 net, Value.int .i64 ((k : Int) + 1)) = (.int .u32 (((2 * v + 1) * 2 ^ (32 - (k + 1)) : Nat) : Int), .int .i64 ((k + 1 : Nat) : Int)) := by
  intro hs
  obtain ⟨b, hb⟩ := Option.isSome_iff_exists.1 hs
  have := (h.lt _ _ _ hb).1
  omega
def cP (x : Pf) : List Value := [.int .u32 x.1, .int .i64 x.2]

theorem it_end {w0 : World} {Bo m d1 d2 : Nat} {J : List Pf → World → Prop} {xs ys : List Pf} {W W7 : World} (tmps : Array Value) (hG : Grd w0 Bo J) (hJo : OwnN Bo W.heap.size J) (hO : OutOk Bo W) (h1 : W.heap.size ≤ d1) (h2 : W.heap.size ≤ d2) (hne : d1 ≠ d2)
    (hJ : J xs W7) (hK : KpO Bo W W7) (hd2 : W7.heap[d2]? = some (.deferred (some []))) (hd1 : W7.heap[d1]? = some (.deferred (some []))) (e : xs = ys) :
    bodyPostM Fence.wide m Try.prog Try.f40 (ItPost Bo J ys W) .normal { tmps, defers := [{ target := .collected d2, args := #[] }, { target := .collected d1, args := #[] }] } W7 := by
  subst e
  have n2 := nm_noncell (hG _ _ hJ).2 hd2 rfl
  have j2 := hJo.putObj (.deferred none) hJ h2 n2
  have hd1' : (W7.putObj d2 (.deferred none)).heap[d1]? = some (.deferred (some [])) := (World.putObj_heap_other hne).trans hd1
  have n1 := nm_noncell (hG _ _ j2).2 hd1' rfl
  refine ⟨by simp, .inl ⟨_, _, rfl, run_takeDeferred hd2, by simp, .inl ⟨_, _, rfl, run_takeDeferred hd1', ?_⟩⟩⟩
  exact ⟨_, results_none rfl _ _ _, ⟨_, rfl⟩, hJo.putObj _ j2 h1 n1, (hK.putNew hO h2 _).putNew hO h1 _⟩

set_option maxRecDepth 100000 in
set_option maxHeartbeats 2000000 in
theorem it_known (w0 : World) (tb : Nat) (nd : Nd) (l : Nets) (room many : Int) (hT : TreeAt w0 tb nd l room many) (Bo N f k v b : Nat) (y : Int) (hb : nd k v = some b) (hkf : k + (f + 1) = 33) (ih : ItOk w0 nd l Bo N f) (hg : getM l (keyK k v) = some y)
    (m lr Bx Bp : Nat) (J : List Pf → World → Prop) (pre : List Pf) (W : World) (hG : Grd w0 Bo J) (hJo : OwnN Bo W.heap.size J) (hY : YieldTo Bo lr N J) (hJ : J pre W) (hN : pre.length + (underN l (f + 1) k v).length ≤ N)
    (hx : Own1 Bo W Bx [.pointer (some ⟨b, 0, none⟩)] 56) (hp : Own1 Bo W Bp [.int .u32 ((v * 2 ^ (32 - k) : Nat) : Int), .int .i64 k] 30) :
    CallsIn Fence.wide m Try.prog 40 #[.func (.yield lr) #[] #[], .pointer (some ⟨Bx, 0, none⟩), .pointer (some ⟨Bp, 0, none⟩)] W (ItPost Bo J (pre ++ underN l (f + 1) k v) W) := by
  have hO := (hG _ _ hJ).2
  obtain ⟨net, hnet⟩ : ∃ net, v * 2 ^ (32 - k) = net := ⟨_, rfl⟩
  rw [hnet] at hp
  have HNET := Lib.hid hnet
  clear hnet
  have hJ1 := hJo.alloc (.cells #[.func (.yield lr) #[] #[]] 38 (0, 0)) hJ
  have hK1 := (KpO.refl Bo W).alloc hO (.cells #[.func (.yield lr) #[] #[]] 38 (0, 0))
  have hy1 := Own1.new hO [.func (.yield lr) #[] #[]] 38
  have hx1 := hx.kp hK1
  have hp1 := hp.kp hK1
  obtain ⟨⟨c0, c1, c2, c3⟩, cl, -⟩ := (hT.of_same (hG _ _ hJ).1).cells hb
  rw [hg] at c0
  obtain ⟨d0, -⟩ := cells_all hx.1
  obtain ⟨e0, e1, -⟩ := cells_all hp.1
  have dz := size_of hx.1
  have ez := size_of hp.1
  simp only [Nat.reduceAdd] at e1
  simp only [Option.isSome_some] at c0
  obtain ⟨fn, tmps, assign, body, hy, hR⟩ := hY (m - 1) pre (net, k) _ hJ1 (by rw [underN, hg] at hN; simp at hN; omega)
  simp only [encP] at hy
  have HH := Lib.hid (And.intro hG (And.intro hJo (And.intro hY (And.intro hK1 (And.intro hy1 (And.intro hx1 (And.intro hp1 hO)))))))
  clear hG hJo hY hK1 hy1 hx1 hp1 hJ1 hJ hx hp hO c1
  refine callsIn_of_wp_marks Try.func40 rfl trivial ?_ rfl
  simp only [Try.ntmps40, List.size_toArray, List.length_cons, List.length_nil, Nat.reduceAdd, Nat.reduceSub, Array.replicate_succ, Array.replicate_zero, List.push_toArray, List.append_toArray, List.nil_append, List.cons_append]
  gi_wp2_with (fail)
  refine ⟨fun h => absurd h (by decide), hR.mono ?_⟩
  clear hR hy c0 c2 c3 cl d0 e0 e1 dz ez
  rintro e W2 ⟨rfl, hJ2, hk2⟩
  obtain ⟨pre0, hpre⟩ : ∃ pre0, pre0 = pre ++ [(net, k)] := ⟨_, rfl⟩
  rw [← hpre] at hJ2
  have HPRE := Lib.hid (show pre ++ underN l (f + 1) k v = pre0 ++ underN l f (k + 1) (2 * v) ++ underN l f (k + 1) (2 * v + 1) by rw [hpre, underN, hg, HNET.out]; simp)
  have HN0 := Lib.hid (show pre0.length + (underN l f (k + 1) (2 * v)).length + (underN l f (k + 1) (2 * v + 1)).length ≤ N by have h1 := congrArg List.length HPRE.out; simp only [List.length_append] at h1; omega)
  clear hpre hN
  obtain ⟨hG, hJo, hY, hK1, hy1, hx1, hp1, hO⟩ := HH.out
  have hy2 := hy1.kp hk2
  have hx2 := hx1.kp hk2
  have hp2 := hp1.kp hk2
  have hK2 := hK1.trans hk2
  obtain ⟨⟨c0, c1, c2, c3⟩, cl, -⟩ := (hT.of_same (hG _ _ hJ2).1).cells hb
  obtain ⟨q0, hq0⟩ := ptrV_form (nd (k + 1) (2 * v))
  obtain ⟨q1, hq1⟩ := ptrV_form (nd (k + 1) (2 * v + 1))
  rw [hq0] at c2
  rw [hq1] at c3
  have HQ0 := Lib.hid hq0
  have HQ1 := Lib.hid hq1
  have hk32 := (hT.lt _ _ _ hb).1
  have ek : IntKind.i64.wrap ((k : Int) + 1) = (k : Int) + 1 := IntWalk.i64_in _ (by omega)
  obtain ⟨e0, e1, -⟩ := cells_all hp2.1
  have ez := size_of hp2.1
  simp only [Nat.reduceAdd] at e1
  obtain ⟨d0, -⟩ := cells_all hx2.1
  have dz := size_of hx2.1
  have hO2 := (hG _ _ hJ2).2
  have HA := Lib.hid (And.intro hG (And.intro hJo (And.intro hY (And.intro hK2 (And.intro hy2 (And.intro hx2 (And.intro hp2 (And.intro hO2 hO))))))))
  have HJ2 := Lib.hid hJ2
  have HT := Lib.hid hT
  have HB := Lib.hid hb
  have HGT := Lib.hid hg
  clear hG hJo hY hK1 hy1 hx1 hp1 hk2 hy2 hx2 hp2 hK2 HH hO2 hO hJ2 hT hb hg c0 c1 hq0 hq1
  gi_wp2_with (fail)
  have hix0 := ix0 q0 q1
  have hix1 := ix1 q0 q1
  refine wpIn_loop_rounds 3 ?_
  rw [roundsIn_succ]
  gi_wp2_with (fail)
  clear c2 c3 cl d0 e0 e1 dz ez hix0
  refine ⟨trivial, fun h => absurd h (by decide), (callsIn_wide.2 (nets_calls q0 (_, _) _)).mono ?_⟩
  rintro e w3 ⟨rfl, rfl⟩
  gi_wp2_with (fail)
  obtain ⟨hG, hJo, hY, hK2, hy2, hx2, hp2, hO2, hO⟩ := HA.out
  have hE := Env.mk hG (hJo.mono hK2.size) hY
  have hJq := hE.own.alloc (.cells #[.int .u32 net, .int .i64 ((k : Int) + 1)] 30 (0, 0)) HJ2.out
  have hKq := (KpO.refl Bo W2).alloc hO2 (.cells #[.int .u32 net, .int .i64 ((k : Int) + 1)] 30 (0, 0))
  have hsq := World.size_alloc W2 (.cells #[.int .u32 net, .int .i64 ((k : Int) + 1)] 30 (0, 0))
  obtain ⟨V, hV⟩ : ∃ V, W2.alloc (.cells #[.int .u32 net, .int .i64 ((k : Int) + 1)] 30 (0, 0)) = V := ⟨_, rfl⟩
  rw [hV] at hJq hKq hsq ⊢
  obtain ⟨W3, hW3⟩ : ∃ W3, W3 = (V.alloc (.cells #[.pointer q0] 56 (0, 0))).alloc (.cells #[.int .u32 net, .int .i64 ((k : Int) + 1)] 30 (0, 0)) := ⟨_, rfl⟩
  obtain ⟨hJ3, hK3, hx3, hp3, hs3⟩ := two_boxes hE hJq q0 _ _ hW3
  rw [← hW3]
  clear hW3
  rw [hsq] at hx3 hp3
  have hKq3 := hKq.trans hK3
  have hy3 := hy2.kp hKq3
  refine range_box (m := m) (n := m) (encs := encP) Bo 7 cP 30 rfl (enters_of Try.func40 (by kernel_rfl) rfl) (fun _ => rfl) (fun ys W => J ys W ∧ KpO Bo W3 W) N pre0 (pre0 ++ underN l f (k + 1) (2 * v)) ?hI ?hO ⟨hJ3, KpO.refl _ _⟩ ?hit ?assign ?body ?done
  case hI => exact OwnN.and (hE.own.mono (by omega)) (ownN_kpo (hE.grd _ _ hJ3).2 (Nat.le_refl _))
  case hO => exact fun pre W h => (hE.grd _ _ h.1).2
  case hit => exact inner_it ih hE (by omega) HQ0.out m _ _ hx3 hp3 (child0 HT.out HNET.out) (by have := HN0.out; omega)
  case assign =>
    intro pre' x W' K hs hK
    simp [boxAct, encP, cP] at hK
    simp only [encP]
    gi_wp2_with (fail)
    exact hK
  case body =>
    rintro pre' x Bz W' hs hlen ⟨hj, hk⟩ hz
    have hyw := hy3.kp hk
    obtain ⟨y0, -⟩ := cells_all hyw.1
    obtain ⟨z0, z1, -⟩ := cells_all hz
    obtain ⟨fn', tmps', assign', body', hy', hR'⟩ := hE.yld (m - 1) pre' x W' hj hlen
    simp only [encP] at hy'
    simp only [Nat.reduceAdd] at z1
    simp [boxAct, encP]
    gi_wp2_with (fail)
    refine ⟨fun h => absurd h (by decide), RoundIn.mono (F := Fence.wide.inRound _) hR' ?_⟩
    rintro e W'' ⟨rfl, hj2, hk2⟩
    have HZ := Lib.hid (And.intro hk2 (And.intro hj2 (hk.trans hk2)))
    clear hj2 hk2 hk hj hR' hy' hyw
    gi_wp2_with (fail)
    first | exact ⟨rfl, HZ.out⟩ | exact HZ.out
  case done =>
    rintro W' ⟨hj, hk⟩ hkw hD
    have hk2 := hKq3.trans hk
    have hy4 := hy2.kp hk2
    have hp4 := hp2.kp hk2
    have hO4 := (hE.grd _ _ hj).2
    have hK4 := hK2.trans hk2
    have HD := Lib.hid hD
    have HS := Lib.hid hs3
    have HSQ := Lib.hid hsq
    have HF := Lib.hid (And.intro hE (And.intro hk2 (And.intro hy4 (And.intro hp4 (And.intro hO4 (And.intro hK4 hj))))))
    obtain ⟨e0, e1, -⟩ := cells_all hp4.1
    have ez := size_of hp4.1
    simp only [Nat.reduceAdd] at e1
    clear hD hs3 hk2 hy4 hp4 hO4 hK4 hj hk hkw hy3 hp3 hx3 hK3 hKq hKq3 hJ3 hJq hV hsq hE hG hJo hY hK2 hy2 hx2 hp2 hO2 hO
    gi_wp2_with (fail)
    rw [roundsIn_succ]
    gi_wp2_with (fail)
    · have hk31 : k < 32 := by omega
      have hq1 := blk_new W' (.cells #[.int .u32 net, .int .i64 ((k : Int) + 1)] 30 (0, 0))
      obtain ⟨v0, v1, -⟩ := cells_all (l := [_, _]) hq1
      have vz := size_of hq1
      have vf := frz hq1 0
      have HV2 := Lib.hid (And.intro hq1 (And.intro (HF.out.1.own.alloc (.cells #[.int .u32 net, .int .i64 ((k : Int) + 1)] 30 (0, 0)) HF.out.2.2.2.2.2.2) ((KpO.refl Bo W').alloc HF.out.2.2.2.2.1 (.cells #[.int .u32 net, .int .i64 ((k : Int) + 1)] 30 (0, 0)))))
      have hs0 : (0 : Int) ≤ 32 - ((k : Int) + 1) := by omega
      have hs1 : 32 - ((k : Int) + 1) ≤ 32 := by omega
      simp only [Nat.reduceAdd] at v1
      have hnq := nm_new HF.out.2.2.2.2.1 (.cells #[.int .u32 net, .int .i64 ((k : Int) + 1)] 30 (0, 0))
      obtain ⟨net1, hnet1⟩ : ∃ net1, (2 * v + 1) * 2 ^ (32 - (k + 1)) = net1 := ⟨_, rfl⟩
      have hor := or_bit hk31 (HT.out.lt _ _ _ HB.out).2 HNET.out
      rw [hnet1] at hor
      have HN1 := Lib.hid hnet1
      have HNQ := Lib.hid hnq
      clear hq1 hnet1 hnq
      generalize W'.alloc (.cells #[.int .u32 net, .int .i64 ((k : Int) + 1)] 30 (0, 0)) = V2 at v0 v1 vz vf HV2 HNQ ⊢
      refine wpIn_wide.2 ?_
      go_region
      clear hor hs0 hs1
      have hJ5 := HF.out.1.own.drew (HF.out.1.own.setCell 0 (.int .u32 net1) HV2.out.2.1 (Nat.le_trans HF.out.2.1.size (Nat.le_refl _)) HNQ.out)
      have hK5 := (HV2.out.2.2.setNew HF.out.2.2.2.2.1 (Nat.le_refl _) 0 (.int .u32 net1)).drew HF.out.2.2.2.2.1
      have g0 : ((V2.setCell ⟨W'.heap.size, 0, none⟩ (.int .u32 net1)).drew).cell? ⟨W'.heap.size, 0, none⟩ = some (.int .u32 net1) := cell_of (cs := #[.int .u32 net1, .int .i64 ((k : Int) + 1)]) (blk_set HV2.out.1 0 _) rfl
      have g1 : ((V2.setCell ⟨W'.heap.size, 0, none⟩ (.int .u32 net1)).drew).cell? ⟨W'.heap.size, 1, none⟩ = some (.int .i64 ((k : Int) + 1)) := cell_of (cs := #[.int .u32 net1, .int .i64 ((k : Int) + 1)]) (blk_set HV2.out.1 0 _) rfl
      have gz : W'.heap.size < ((V2.setCell ⟨W'.heap.size, 0, none⟩ (.int .u32 net1)).drew).heap.size := by show _ < (V2.setCell _ _).heap.size; rw [World.size_setCell]; exact vz
      generalize (V2.setCell ⟨W'.heap.size, 0, none⟩ (.int .u32 net1)).drew = V5 at hJ5 hK5 g0 g1 gz ⊢
      have HX := Lib.hid (And.intro hJ5 hK5)
      have HP1 := Lib.hid (child1 HT.out HN1.out)
      clear hJ5 hK5 v0 v1 vz vf HV2 HNQ
      gi_wp2_with (fail)
      revert HX HP1
      generalize net1 = netx
      intro HX HP1
      refine ⟨trivial, fun h => absurd h (by decide), (callsIn_wide.2 (nets_calls q1 (_, _) _)).mono ?_⟩
      rintro e w3 ⟨rfl, rfl⟩
      gi_wp2_with (fail)
      obtain ⟨W6, hW6⟩ : ∃ W6, W6 = (V5.alloc (.cells #[.pointer q1] 56 (0, 0))).alloc (.cells #[.int .u32 netx, .int .i64 ((k : Int) + 1)] 30 (0, 0)) := ⟨_, rfl⟩
      obtain ⟨hE, hk2, hy4, hp4, hO4, hK4, hj⟩ := HF.out
      obtain ⟨hJ6, hK6, hx6, hp6, hs6⟩ := two_boxes hE HX.out.1 q1 _ _ hW6
      rw [← hW6]
      clear hW6
      have hK56 := HX.out.2.trans hK6
      have hy6 := hy4.kp hK56
      have hD6 := (hK56.same _ _ HD.out (nm_noncell hO4 HD.out rfl))
      have HD6 := Lib.hid hD6
      have hB6 : W2.heap.size ≤ W6.heap.size := Nat.le_trans hk2.size hK56.size
      refine range_box (m := m) (n := m) (encs := encP) Bo 7 cP 30 rfl (enters_of Try.func40 (by kernel_rfl) rfl) (fun _ => rfl) (fun ys W => J ys W ∧ KpO Bo W6 W) N (pre0 ++ underN l f (k + 1) (2 * v)) (pre0 ++ underN l f (k + 1) (2 * v) ++ underN l f (k + 1) (2 * v + 1)) ?hI ?hO ⟨hJ6, KpO.refl _ _⟩ ?hit ?assign ?body ?done
      case hI => exact OwnN.and (hE.own.mono hB6) (ownN_kpo (hE.grd _ _ hJ6).2 (Nat.le_refl _))
      case hO => exact fun pre W h => (hE.grd _ _ h.1).2
      case hit => exact inner_it ih hE (by omega) HQ1.out m _ _ hx6 hp6 HP1.out (by have := HN0.out; simp only [List.length_append]; omega)
      case assign =>
        intro pre' x W' K hs hK
        simp [boxAct, encP, cP] at hK
        simp only [encP]
        gi_wp2_with (fail)
        exact hK
      case body =>
        rintro pre' x Bz W' hs hlen ⟨hj, hk⟩ hz
        have hyw := hy6.kp hk
        obtain ⟨y0, -⟩ := cells_all hyw.1
        obtain ⟨z0, z1, -⟩ := cells_all hz
        obtain ⟨fn', tmps', assign', body', hy', hR'⟩ := hE.yld (m - 1) pre' x W' hj hlen
        simp only [encP] at hy'
        simp only [Nat.reduceAdd] at z1
        simp [boxAct, encP]
        gi_wp2_with (fail)
        refine ⟨fun h => absurd h (by decide), RoundIn.mono (F := Fence.wide.inRound _) hR' ?_⟩
        rintro e W'' ⟨rfl, hj2, hk2⟩
        have HZ := Lib.hid (And.intro hk2 (And.intro hj2 (hk.trans hk2)))
        clear hj2 hk2 hk hj hR' hy' hyw
        gi_wp2_with (fail)
        first | exact ⟨rfl, HZ.out⟩ | exact HZ.out
      case done =>
        rintro W7 ⟨hj7, hk7⟩ hkw7 hD7
        have hD8 := (hk7.same _ _ HD6.out.1 HD6.out.2).1
        have hK7 := hK4.trans (hK56.trans hk7)
        have HZ := Lib.hid (And.intro hj7 (And.intro hK7 (And.intro hD7 hD8)))
        have HL6 := Lib.hid hs6
        have HK6 := Lib.hid (Nat.le_trans (size_of HD.out) (Nat.le_trans HX.out.2.size hK6.size))
        clear hD7 hD8 hK7 hj7 hk7 hkw7 hy6 hD6 hK56 hp6 hx6 hK6 hJ6 hE hk2 hy4 hp4 hO4 hK4 hj
        gi_wp2_with (fail)
        rw [roundsIn_succ]
        gi_wp2_with (fail)
        obtain ⟨z1, z2, z3, z4⟩ := HZ.out
        obtain ⟨hG, hJo, -, hK2, -, -, -, -, hO⟩ := HA.out
        have hs1 := HS.out
        have hs2 := HSQ.out
        have hs3 := HL6.out
        have hz := HK6.out
        have hz2 := hK2.size
        exact it_end _ hG hJo hO (by omega) (by omega) (by omega) z1 z2 z3 z4 HPRE.out.symm
    have hk31 : ¬ k + 1 ≤ 32 := by omega
    have HP1 := Lib.hid (child32 (net := net) HT.out (k := k) (v := v) (by omega))
    have HX := Lib.hid (And.intro (HF.out.1.own.alloc (.cells #[.int .u32 net, .int .i64 ((k : Int) + 1)] 30 (0, 0)) HF.out.2.2.2.2.2.2) ((KpO.refl Bo W').alloc HF.out.2.2.2.2.1 (.cells #[.int .u32 net, .int .i64 ((k : Int) + 1)] 30 (0, 0))))
    generalize W'.alloc (.cells #[.int .u32 net, .int .i64 ((k : Int) + 1)] 30 (0, 0)) = V5 at HX ⊢
    refine ⟨trivial, fun h => absurd h (by decide), (callsIn_wide.2 (nets_calls q1 (_, _) _)).mono ?_⟩
    rintro e w3 ⟨rfl, rfl⟩
    gi_wp2_with (fail)
    obtain ⟨W6, hW6⟩ : ∃ W6, W6 = (V5.alloc (.cells #[.pointer q1] 56 (0, 0))).alloc (.cells #[.int .u32 net, .int .i64 ((k : Int) + 1)] 30 (0, 0)) := ⟨_, rfl⟩
    obtain ⟨hE, hk2, hy4, hp4, hO4, hK4, hj⟩ := HF.out
    obtain ⟨hJ6, hK6, hx6, hp6, hs6⟩ := two_boxes hE HX.out.1 q1 _ _ hW6
    rw [← hW6]
    clear hW6
    have hK56 := HX.out.2.trans hK6
    have hy6 := hy4.kp hK56
    have hD6 := (hK56.same _ _ HD.out (nm_noncell hO4 HD.out rfl))
    have HD6 := Lib.hid hD6
    have hB6 : W2.heap.size ≤ W6.heap.size := Nat.le_trans hk2.size hK56.size
    refine range_box (m := m) (n := m) (encs := encP) Bo 7 cP 30 rfl (enters_of Try.func40 (by kernel_rfl) rfl) (fun _ => rfl) (fun ys W => J ys W ∧ KpO Bo W6 W) N (pre0 ++ underN l f (k + 1) (2 * v)) (pre0 ++ underN l f (k + 1) (2 * v) ++ underN l f (k + 1) (2 * v + 1)) ?hI ?hO ⟨hJ6, KpO.refl _ _⟩ ?hit ?assign ?body ?done
    case hI => exact OwnN.and (hE.own.mono hB6) (ownN_kpo (hE.grd _ _ hJ6).2 (Nat.le_refl _))
    case hO => exact fun pre W h => (hE.grd _ _ h.1).2
    case hit => exact inner_it ih hE (by omega) HQ1.out m _ _ hx6 hp6 HP1.out (by have := HN0.out; simp only [List.length_append]; omega)
    case assign =>
      intro pre' x W' K hs hK
      simp [boxAct, encP, cP] at hK
      simp only [encP]
      gi_wp2_with (fail)
      exact hK
    case body =>
      rintro pre' x Bz W' hs hlen ⟨hj, hk⟩ hz
      have hyw := hy6.kp hk
      obtain ⟨y0, -⟩ := cells_all hyw.1
      obtain ⟨z0, z1, -⟩ := cells_all hz
      obtain ⟨fn', tmps', assign', body', hy', hR'⟩ := hE.yld (m - 1) pre' x W' hj hlen
      simp only [encP] at hy'
      simp only [Nat.reduceAdd] at z1
      simp [boxAct, encP]
      gi_wp2_with (fail)
      refine ⟨fun h => absurd h (by decide), RoundIn.mono (F := Fence.wide.inRound _) hR' ?_⟩
      rintro e W'' ⟨rfl, hj2, hk2⟩
      have HZ := Lib.hid (And.intro hk2 (And.intro hj2 (hk.trans hk2)))
      clear hj2 hk2 hk hj hR' hy' hyw
      gi_wp2_with (fail)
      first | exact ⟨rfl, HZ.out⟩ | exact HZ.out
    case done =>
      rintro W7 ⟨hj7, hk7⟩ hkw7 hD7
      have hD8 := (hk7.same _ _ HD6.out.1 HD6.out.2).1
      have hK7 := hK4.trans (hK56.trans hk7)
      have HZ := Lib.hid (And.intro hj7 (And.intro hK7 (And.intro hD7 hD8)))
      have HL6 := Lib.hid hs6
      have HK6 := Lib.hid (Nat.le_trans (size_of HD.out) (Nat.le_trans HX.out.2.size hK6.size))
      clear hD7 hD8 hK7 hj7 hk7 hkw7 hy6 hD6 hK56 hp6 hx6 hK6 hJ6 hE hk2 hy4 hp4 hO4 hK4 hj
      gi_wp2_with (fail)
      rw [roundsIn_succ]
      gi_wp2_with (fail)
      obtain ⟨z1, z2, z3, z4⟩ := HZ.out
      obtain ⟨hG, hJo, -, hK2, -, -, -, -, hO⟩ := HA.out
      have hs1 := HS.out
      have hs2 := HSQ.out
      have hs3 := HL6.out
      have hz := HK6.out
      have hz2 := hK2.size
      exact it_end _ hG hJo hO (by omega) (by omega) (by omega) z1 z2 z3 z4 HPRE.out.symm
end Go.Proofs.Ytkofjejdgdhapaa
