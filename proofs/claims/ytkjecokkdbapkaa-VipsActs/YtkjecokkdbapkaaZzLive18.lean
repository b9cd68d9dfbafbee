import Derived.Test.YtkjecokkdbapkaaZzPools4
import Derived.Test.YtkjecokkdbapkaaZzSt2
import Derived.Test.YtkjecokkdbapkaaProg
namespace Go.Proofs.Ytkjecokkdbapkaa
set_option linter.all false
open Go Go.Eng Go.RowKit
set_option maxRecDepth 20000
set_option maxHeartbeats 2000000
set_option linter.unusedVariables false
set_option linter.unusedSimpArgs false
attribute [local irreducible] WL W QL WA SP

theorem sca22 : Sca Try.prog 22 := ⟨Try.isAgg22, Try.sizeOf22⟩
theorem siz22 : ∀ w, (sizeOf 22).run Try.prog w = .ok 1 w := Try.sizeOf22

abbrev poolA (b : Nat) (c : Cfg) (p : PSt) : Asr where
  P w F := PoolAt w F b c p
  upd h hu hS := h.upd hu hS
  lt h := h.lt
def liveL (p : PSt) : List Nat := (List.range p.vs.length).filter (fun v => pLive p (v : Nat))
theorem filt_succ {f : Nat → Bool} {v : Nat} : (List.range (v + 1)).filter f = (List.range v).filter f ++ if f v then [v] else [] := by
  rw [List.range_succ, List.filter_append]
  cases h : f v <;> simp [h]
theorem filt_split {f : Nat → Bool} {n v : Nat} (hv : v < n) (h : f v = true) : ∃ rest, (List.range n).filter f = (List.range v).filter f ++ v :: rest := by
  obtain ⟨k, rfl⟩ : ∃ k, n = v + 1 + k := ⟨n - (v + 1), by omega⟩
  refine ⟨((List.range k).map (v + 1 + ·)).filter f, ?_⟩
  rw [List.range_add, List.filter_append, filt_succ, h, if_pos rfl, List.append_assoc]; rfl

theorem Live_iter (F : Nat → Prop) (b bc : Nat) (c : Cfg) (p : PSt) : Iter Try.prog 170 [.pointer (some ⟨bc, 0, none⟩)] (fun v : Nat => [i64 (v : Nat)]) (liveL p) (fun W => Blk W bc [.pointer (some ⟨b, 0, none⟩)] ∧ PoolAt W F b c p) := by
  intro l J Jx w hJ hJx hM hj hY
  refine Calls.of_W (N := 24) Try.func170 rfl rfl rfl ?_
  refine W.seq ?_
  refine W.reg ?_
  refine WL.y (R.load sca61 rfl ((hM _ _ hj).1).r rfl) rfl ?_
  refine WL.y (R.eqlNil Try.underlying61 rfl) rfl ?_
  refine WL.nil ?_
  refine W.cond_f rfl ?_
  refine W.skip ?_
  refine W.reg ?_
  obtain ⟨gl, cl, csl, rvs, aL, cL, aS, cS, H⟩ := (hM _ _ hj).2
  have h16 := H.v64
  refine WL.y (R.load sca61 rfl ((hM _ _ hj).1).r rfl) rfl ?_
  refine WL.y (R.nilCheck rfl) rfl ?_
  refine WL.y (R.fieldAddr fo203_1 rfl) rfl ?_
  refine WL.y (R.load sca200 rfl (H.blk).r rfl) rfl ?_
  refine WL.y (R.lenS Try.underlying200 rfl) rfl ?_
  refine WL.y (R.mv (v := .int _ _) rfl) rfl ?_
  refine WL.nil ?_
  refine W.block ?_
  refine W.loopS (ι := Nat) [(3, 4), (11, 24)] (fun v => [(11, i64 (v : Nat))]) (fun v => p.vs.length - v) (fun v w' => v ≤ p.vs.length ∧ J ((List.range v).filter (fun v => pLive p (v : Nat))) w') 0 ⟨rfl, trivial⟩ ⟨Nat.zero_le _, hj⟩ ?_
  rintro v j wl ⟨hv, hj⟩
  refine W.reg ?_
  refine WL.fork (R.lss rfl rfl) rfl (fun hc2_0 => ?_) (fun hc2_0 => ?_)
  · skip
    replace hc2_0 := of_decide_eq_true hc2_0
    refine WL.nil ?_
    refine W.seq ?_
    refine W.cond_t rfl ?_
    refine W.skip ?_
    refine W.seq ?_
    refine W.block ?_
    refine W.reg ?_
    refine WL.y (R.mv (v := .int _ _) rfl) rfl ?_
    refine WL.y (R.asg (v := .int _ _) rfl) rfl ?_
    refine WL.nil ?_
    refine W.reg ?_
    refine WL.y (R.load sca61 rfl ((hM _ _ hj).1).r rfl) rfl ?_
    refine WL.y (R.mv (v := .int _ _) rfl) rfl ?_
    refine WL.call Try.func123 rfl rfl (CallV.fork (live_calls F b c p _ (hM _ _ hj).2 (v : Nat))) rfl rfl ?_
    rintro _ w1 (⟨hc4_2, rfl, hx1⟩ | ⟨hc4_2, rfl, hx1⟩)
    · skip
      have hz1 := hx1.size
      replace hj := hJ _ _ _ hj hx1
      refine WL.y (R.mv (v := .bool true) rfl) rfl ?_
      refine WL.y (R.mv (v := _) rfl) rfl ?_
      refine WL.y (R.mv (v := .int _ _) rfl) rfl ?_
      obtain ⟨rest, hsp⟩ := filt_split (f := fun v => pLive p (v : Nat)) (show v < p.vs.length by omega) hc4_2
      refine WL.callY (vs := [i64 (v : Nat)]) rfl (hY _ v rest _ hsp hj) rfl rfl ?_
      rintro _ w2 (⟨rfl, hj⟩ | ⟨rfl, hjx⟩)
      · skip
        refine WL.y (R.notT rfl) rfl ?_
        refine WL.y (R.pkT (v := .bool false) rfl rfl) rfl ?_
        refine WL.nil ?_
        refine W.cond_f rfl ?_
        refine W.skip ?_
        refine W.region ?_
        refine WL.y (R.addI rfl rfl (by omega)) rfl ?_
        refine WL.y (R.mv (v := .int _ _) rfl) rfl ?_
        refine WL.nil ?_
        exact ⟨v + 1, (by omega), (by repeat (first | exact Same.rfl' _ _ | refine Same.set _ rfl ?_ | refine Same.over' _ rfl ?_ | refine Same.sets rfl ?_)), ⟨rfl, trivial⟩, rfl, by omega, (by rw [filt_succ, hc4_2, if_pos rfl]; exact hj)⟩
      · skip
        refine WL.y (R.notF rfl) rfl ?_
        refine WL.y (R.pkT (v := .bool true) rfl rfl) rfl ?_
        refine WL.nil ?_
        refine W.cond_t rfl ?_
        refine W.ret ?_
        exact PR.r0 rfl (.inr ⟨_, ⟨rest, by rw [List.append_assoc]; exact hsp.symm⟩, hjx⟩)
    · skip
      have hz1 := hx1.size
      replace hj := hJ _ _ _ hj hx1
      refine WL.y (R.mv (v := .bool false) rfl) rfl ?_
      refine WL.skip rfl ?_
      refine WL.skip rfl ?_
      refine WL.skip rfl ?_
      refine WL.skip rfl ?_
      refine WL.y (R.pkF (v := .bool false) rfl rfl) rfl ?_
      refine WL.nil ?_
      refine W.cond_f rfl ?_
      refine W.skip ?_
      refine W.region ?_
      refine WL.y (R.addI rfl rfl (by omega)) rfl ?_
      refine WL.y (R.mv (v := .int _ _) rfl) rfl ?_
      refine WL.nil ?_
      exact ⟨v + 1, (by omega), (by repeat (first | exact Same.rfl' _ _ | refine Same.set _ rfl ?_ | refine Same.over' _ rfl ?_ | refine Same.sets rfl ?_)), ⟨rfl, trivial⟩, rfl, by omega, (by rw [filt_succ, hc4_2]; simpa using hj)⟩
  · skip
    replace hc2_0 := of_decide_eq_false hc2_0
    refine WL.nil ?_
    refine W.seq ?_
    refine W.cond_f rfl ?_
    refine W.exit ?_
    obtain rfl : v = p.vs.length := by omega
    exact PR.r0 rfl (.inl hj)

theorem Live_calls (q : Option Addr) (w : World) : CallV Try.prog 125 #[.pointer q] w fun v w' => ∃ bc, v = .func (.func 170) #[] #[.pointer (some ⟨bc, 0, none⟩)] ∧ Blk w' bc [.pointer q] ∧ w.heap.size ≤ bc ∧ Ext w w' := by
  have hX : Ext w w := Ext.rfl' w
  refine Calls.of_W (N := 4) Try.func125 rfl rfl rfl ?_
  refine W.reg ?_
  refine WL.box (v := .pointer _) rfl rfl rfl ?_
  intro b1 w1 hb1 hs1 hx1 hB1
  have hge1 := hX.size
  replace hX := hX.tr hx1
  refine WL.y (R.asg (v := _) rfl) rfl ?_
  refine WL.nil ?_
  refine W.reg ?_
  refine WL.y (R.makeFuncP (cap := [.tmp 1]) (vs := [.pointer _]) rfl) rfl ?_
  refine WL.y (R.asg (v := _) rfl) rfl ?_
  refine WL.nil ?_
  refine W.ret ?_
  exact PR.r1 rfl (.tmp rfl) ⟨b1, rfl, hB1, by omega, hX⟩
end Go.Proofs.Ytkjecokkdbapkaa
