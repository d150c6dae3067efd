/- lpm: made. -/
import Derived.Test.YtkofjejdgdhapaaLqL
namespace Go.Proofs.Ytkofjejdgdhapaa
open Go.RowKit

structure Stp where
  do_ : Int
  n : Int
  net : Nat
  b : Int
def Stp.cells (s : Stp) : List Value := [.int .i64 s.do_, .int .i64 s.n, .int .u32 s.net, .int .i64 s.b]
def rStp : Rd Stp := ((Rd.int .i64).pair ((Rd.int .i64).pair ((Rd.int .u32).pair (Rd.int .i64)))).iso fun x => ⟨x.1, x.2.1, x.2.2.1.toNat, x.2.2.2⟩
theorem wf_u32 {x : Int} (h : (Lit.int .u32 x).wf = true) : 0 ≤ x ∧ x < 4294967296 := by
  simp [Lit.wf, IntKind.min, IntKind.max, IntKind.signed, IntKind.bits] at h
  omega
theorem rStp_out {w : World} {cs : List Value} {p : Stp} (h : rStp.R w cs p) : cs = p.cells ∧ p.net < 2 ^ 32 := by
  obtain ⟨x, ⟨_, _, rfl, ⟨rfl, _⟩, ⟨_, _, rfl, ⟨rfl, _⟩, ⟨_, _, rfl, ⟨rfl, hw⟩, ⟨rfl, _⟩⟩⟩⟩, rfl⟩ := h
  have hx := wf_u32 hw
  refine ⟨?_, ?_⟩
  · have e : ((x.2.2.1.toNat : Nat) : Int) = x.2.2.1 := Int.toNat_of_nonneg hx.1
    simp [Stp.cells, e]
  · show x.2.2.1.toNat < 2 ^ 32
    omega
theorem opens_i64 : Opens Try.prog 3 (Rd.int .i64) := opens_int Try.underlying3
theorem opens_stp : Opens Try.prog 55 rStp := opens_iso (opens_struct Try.underlying55 (by kernel_rfl) (.cons rfl (by kernel_rfl) opens_i64 (.cons rfl (by kernel_rfl) opens_i64 (.one rfl (by kernel_rfl) (opens_struct Try.underlying30 (by kernel_rfl) (.cons rfl (by kernel_rfl) (opens_int Try.underlying23) (.one rfl (by kernel_rfl) opens_i64))))))) _
theorem opens_stps : Opens Try.prog 22 (Rd.slice rStp) := opens_slice Try.underlying22 (by kernel_rfl) (by decide) opens_stp
theorem stp_cells {w w' : World} {b off j : Nat} {x : Stp} (h : CellsOff w b (off + j * 4) 0 x.cells) (hb : CK w w') :
    (w'.cell? ⟨b, off + j * 4, none⟩ = some (.int .i64 x.do_) ∧ w'.cell? ⟨b, off + j * 4 + 1, none⟩ = some (.int .i64 x.n) ∧ w'.cell? ⟨b, off + j * 4 + 2, none⟩ = some (.int .u32 x.net) ∧ w'.cell? ⟨b, off + j * 4 + 3, none⟩ = some (.int .i64 x.b)) ∧ b < w'.heap.size := by
  have hc := h.mono hb
  simp only [CellsOff, Stp.cells, Nat.reduceAdd, Nat.add_zero, and_true] at hc
  exact ⟨hc, cell_size hc.1⟩
def Made (w0 : World) (room : Int) (w : World) : Prop := ∃ l L, MemAt w0 w w0.heap.size (w0.heap.size + 1) room l L [] ∧ Tied l L ∧ l.length ≤ 150 ∧ (l.length : Int) ≤ room
def MadeI (w0 : World) (room : Int) (j : Nat) (w : World) : Prop := ∃ l L, MemAt w0 w w0.heap.size (w0.heap.size + 1) room l L [] ∧ Tied l L ∧ l.length ≤ j ∧ (l.length : Int) ≤ room
def stpObj (s : Stp) : Obj := .cells #[.int .i64 s.do_, .int .i64 s.n, .int .u32 s.net, .int .i64 s.b] 55 (0, 0)
theorem putCode_eq {l : Nets} {L : List Kn} (h : Tied l L) {net : Nat} {b : Int} (hn : net < 2 ^ 32) (room : Int) : (if rightB net b then (if mayPutR L room net b then (0 : Int) else 3) else 1) = putCode l room net b := by
  rw [h.may hn]; rfl

theorem putN_room {l : Nets} {room : Int} {net : Nat} {b n : Int} (h : (l.length : Int) ≤ room) : ((putN l room net b n).length : Int) ≤ room := by
  unfold putN
  split
  · rename_i hm
    rw [put_len]
    split
    · exact h
    · rename_i hs
      unfold mayPut at hm
      simp only [Bool.and_eq_true, Bool.or_eq_true, decide_eq_true_eq] at hm
      rcases hm.2 with h2 | h2
      · exact absurd h2 hs
      · omega
  · exact h
set_option maxRecDepth 100000 in
set_option maxHeartbeats 2000000 in
theorem made_ok (room : Int) (ad : Option Addr) (c : Nat) (ss : List Stp) (w : World) (hr : RowAt rStp w ad ss) (hlen : ss.length ≤ maxLen) (h1 : 1 ≤ room) (h2 : room ≤ 4096) :
    Calls Try.prog 10 #[.int .i64 room, .slice ad ss.length c] w fun e w' => e = .returned (.tuple #[.pointer (some ⟨w.heap.size, 0, none⟩), .pointer (some ⟨w.heap.size + 1, 0, none⟩), .bool true]) ∧ Made w room w' := by
  have HR := Lib.hid hr
  unfold maxLen at hlen
  have HM0 := Lib.hid (show MadeI w room 0 _ from ⟨[], [], mem_new w room, tied_nil, Nat.le_refl _, by simp; omega⟩)
  clear hr
  go_enter Try.func10, Try.ntmps10
  go_wp2_with (first
    | (go_at_call 25; refine (new_calls room _ h1 h2).mono ?_; rintro e w1 ⟨rfl, rfl⟩)
    | (go_at_call 26; refine (rnew_calls room _ h1 h2).mono ?_; rintro e w1 ⟨rfl, rfl⟩))
  go_loopg [11] (151) (fun g i wr => ∃ j : Nat, j ≤ 150 ∧ j ≤ ss.length ∧ g + j = 151 ∧ i = .int .i64 j ∧ Hid (MadeI w room j wr))
  case atStart => exact ⟨0, Nat.zero_le _, Nat.zero_le _, rfl, rfl, HM0⟩
  case round =>
    clear HM0
    obtain ⟨j, hj, hjl, hg, rfl, HI⟩ := hrel
    obtain ⟨l, L, hm, ht, hlj⟩ := HI.out
    by_cases hlt : j < ss.length
    · by_cases h150 : j < 150
      · have e1 : IntKind.i64.wrap ((j : Int) + 1) = (j : Int) + 1 := IntWalk.i64_in _ (by omega)
        obtain ⟨bk, off, cs, rfl, hc, hR⟩ := HR.out.get (List.getElem?_eq_getElem hlt)
        generalize ss[j] = x at hR
        obtain ⟨rfl, hnet⟩ := rStp_out hR
        obtain ⟨⟨x0, x1, x2, x3⟩, bl⟩ := stp_cells (show CellsOff w bk (off + j * 4) 0 x.cells from hc) (CK.of_below hm.below)
        have HM := Lib.hid (show MemAt w (wr.alloc (stpObj x)) w.heap.size (w.heap.size + 1) room l L [(wr.heap.size, stpObj x)] from hm.push _)
        have HT := Lib.hid ht
        have HN := Lib.hid hnet
        have hlL := ht.len
        have HLL := Lib.hid (show L.length ≤ 100000 by omega)
        have HLl := Lib.hid (show l.length ≤ 100000 by omega)
        have HLJ := Lib.hid hlj
        clear hc hR hm ht hnet HI hlj hlL
        by_cases hd : x.do_ = 0
        · have bd : (x.do_ == 0) = true := by simpa using hd
          obtain ⟨pc, hpc⟩ : ∃ pc, putCode l room x.net x.b = pc := ⟨_, rfl⟩
          have HPC := Lib.hid hpc
          clear hd hpc
          go_wp2_with (first
            | (go_at_call 13; refine (put_mem w w.heap.size (w.heap.size + 1) room l L _ x.net x.b x.n _ HM.out HN.out HLl.out).mono ?_; rintro e w2 ⟨rfl, hm2⟩; rw [HPC.out]; have HM2 := Lib.hid hm2; have hb2 := hm2.blk List.mem_cons_self; have k2 := cells_all (l := [_, _, _, _]) (show w2.heap[wr.heap.size]? = some (.cells #[.int .i64 x.do_, .int .i64 x.n, .int .u32 x.net, .int .i64 x.b] 55 (0, 0)) from hb2); have z2 := size_of hb2; simp only [CellsAt, Nat.reduceAdd, and_true] at k2; obtain ⟨d0, d1, d2, d3⟩ := k2; clear hm2 hb2)
            | (go_at_call 27; refine (rput_mem w w.heap.size (w.heap.size + 1) room _ L _ x.net x.b x.n _ HM2.out HN.out HLL.out ((putCode_eq HT.out HN.out room).trans HPC.out)).mono ?_; rintro e w3 ⟨rfl, hm3⟩; have HM3 := Lib.hid hm3; clear hm3))
          go_roundg (150 - j)
          case measure => omega
          case rel => exact ⟨j + 1, by omega, by omega, by omega, by go_num, Lib.hid ⟨_, _, HM3.out.sub (fun p hp => by cases hp), HT.out.putS HN.out room x.n, by have := putN_len l room x.net x.b x.n; have := HLJ.out; omega, putN_room HLJ.out.2⟩⟩
        · have bd : (x.do_ == 0) = false := by simpa using hd
          obtain ⟨is, his⟩ : ∃ is, (knowsN l x.net x.b).isSome = is := ⟨_, rfl⟩
          have HIS := Lib.hid his
          have HPL := Lib.hid (show (placeL L (x.net, x.b)).2 = is from (HT.out.knows x.b HN.out).2.trans his)
          clear hd his
          go_wp2_with (first
            | (go_at_call 15; refine (drop_mem w w.heap.size (w.heap.size + 1) room l L _ x.net x.b _ HM.out HN.out HLl.out).mono ?_; rintro e w2 ⟨rfl, hm2⟩; rw [HIS.out]; have HM2 := Lib.hid hm2; have hb2 := hm2.blk List.mem_cons_self; have k2 := cells_all (l := [_, _, _, _]) (show w2.heap[wr.heap.size]? = some (.cells #[.int .i64 x.do_, .int .i64 x.n, .int .u32 x.net, .int .i64 x.b] 55 (0, 0)) from hb2); have z2 := size_of hb2; simp only [CellsAt, Nat.reduceAdd, and_true] at k2; obtain ⟨d0, d1, d2, d3⟩ := k2; clear hm2 hb2)
            | (go_at_call 22; refine (rdrop_mem w w.heap.size (w.heap.size + 1) room _ L _ x.net x.b _ HM2.out HLL.out HPL.out).mono ?_; rintro e w3 ⟨rfl, hm3⟩; have HM3 := Lib.hid hm3; clear hm3))
          go_roundg (150 - j)
          case measure => omega
          case rel => exact ⟨j + 1, by omega, by omega, by omega, by go_num, Lib.hid ⟨_, _, HM3.out.sub (fun p hp => by cases hp), HT.out.dropS HM.out.nodup HN.out, by have := dropN_len l x.net x.b; have := HLJ.out; omega, by have := dropN_len l x.net x.b; have := HLJ.out; omega⟩⟩
      · have b150 : ¬ (j : Int) < 150 := by omega
        have HF := Lib.hid (show Made w room wr from ⟨l, L, hm, ht, by omega, by omega⟩)
        clear hm ht HI hlj
        go_wp2_with (fail)
        go_ret3
        exact ⟨rfl, HF.out⟩
    · have hlt3 : ¬ (j : Int) < ss.length := by omega
      have HF := Lib.hid (show Made w room wr from ⟨l, L, hm, ht, by omega, by omega⟩)
      clear hm ht HI hlj
      go_wp2_with (fail)
      go_ret3
      exact ⟨rfl, HF.out⟩
theorem made_bad (room : Int) (ad : Option Addr) (c : Nat) (ss : List Stp) (w : World) (hlen : ss.length ≤ maxLen) (h : room < 1 ∨ 4096 < room) :
    Calls Try.prog 10 #[.int .i64 room, .slice ad ss.length c] w fun e w' => e = .returned (.tuple #[.pointer none, .pointer none, .bool true]) ∧ w = w' := by
  unfold maxLen at hlen
  have H := Lib.hid h
  clear h
  go_enter Try.func10, Try.ntmps10
  go_wp2_with (first
    | (go_at_call 25; refine (new_bad room _ H.out).mono ?_; rintro e w1 ⟨rfl, rfl⟩)
    | (go_at_call 26; refine (rnew_bad room _ H.out).mono ?_; rintro e w1 ⟨rfl, rfl⟩))
  go_loopg [11] 1 (fun g i wr => g = 1 ∧ i = .int .i64 0 ∧ w1 = wr)
  case atStart => exact ⟨rfl, rfl, rfl⟩
  case round =>
    obtain ⟨-, rfl, rfl⟩ := hrel
    by_cases hlt : 0 < ss.length
    · have b0 : decide (0 < (ss.length : Int)) = true := decide_eq_true (by omega)
      go_wp2_with (fail)
      go_ret3
      exact ⟨rfl, rfl⟩
    · have b0 : decide (0 < (ss.length : Int)) = false := decide_eq_false (by omega)
      go_wp2_with (fail)
      go_ret3
      exact ⟨rfl, rfl⟩

/-! ### awake -/
theorem awake_nets : putCode [] 5 167772160 8 = 0 ∧ putN [] 5 167772160 8 1 = [(keyP 167772160 8, 1)] := by
  constructor <;> decide +kernel
theorem awake_nets2 : putN [(keyP 167772160 8, 1)] 5 167837696 16 2 = [(keyP 167772160 8, 1), (keyP 167837696 16, 2)] := by decide +kernel
theorem awake_find : findV [(keyP 167772160 8, 1), (keyP 167837696 16, 2)] 167837701 = .tuple #[.agg #[.int .u32 167837696, .int .i64 16], .int .i64 2, .bool true] := by
  have h : bestTo [(keyP 167772160 8, 1), (keyP 167837696 16, 2)] 167837701 33 = some (16, 2) := by decide +kernel
  rw [findV, h]; rfl
end Go.Proofs.Ytkofjejdgdhapaa
