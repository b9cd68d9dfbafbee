import Derived.Test.YtkjecokkdbapkaaZzVips1
import Derived.Test.YtkjecokkdbapkaaProg
namespace Go.Proofs.Ytkjecokkdbapkaa
set_option linter.all false
open Go Go.Eng Go.RowKit
set_option maxRecDepth 20000
set_option maxHeartbeats 2000000
set_option linter.unusedVariables false
set_option linter.unusedSimpArgs false
attribute [local irreducible] WL W QL WA SP



theorem findIdx_set_same {α : Type} {p : α → Bool} : ∀ {l : List α} {n : Nat} {x y : α}, l[n]? = some y → p y = p x → (l.set n x).findIdx p = l.findIdx p
  | [], n, x, y, h, _ => by simp at h
  | a :: l, 0, x, y, h, e => by
    simp at h; subst h
    simp [List.findIdx_cons, e]
  | a :: l, n + 1, x, y, h, e => by
    have := findIdx_set_same (p := p) (l := l) (n := n) (x := x) (by simpa using h) e
    simp [List.findIdx_cons, this]
theorem idx_set_same {α : Type} {p : α → Bool} {l : List α} {n : Nat} {x y : α} (h : l[n]? = some y) (e : p y = p x) : idx p (l.set n x) = idx p l := by
  simp only [idx, findIdx_set_same h e, List.length_set]
theorem idx_nonneg {α : Type} {p : α → Bool} {l : List α} (h : ¬ idx p l < 0) : ∃ (i : Nat) (x : α), idx p l = i ∧ l[i]? = some x ∧ p x = true := by
  simp only [idx] at h ⊢
  split at h
  · rename_i hlt
    exact ⟨l.findIdx p, l[l.findIdx p], by rw [if_pos hlt], List.getElem?_eq_getElem hlt, List.findIdx_getElem (w := hlt)⟩
  · omega
theorem idx_none {α : Type} {p : α → Bool} {l : List α} (h : ∀ (i : Nat) (x : α), l[i]? = some x → p x = false) : idx p l = -1 := by
  by_cases h0 : idx p l < 0
  · simp only [idx] at h0 ⊢
    split
    · rename_i hlt; rw [if_pos hlt] at h0; omega
    · rfl
  · obtain ⟨i, x, _, h1, h2⟩ := idx_nonneg h0
    rw [h i x h1] at h2; cases h2
theorem idx_neg {α : Type} {p : α → Bool} {l : List α} (h : idx p l < 0) : ∀ (i : Nat) (x : α), l[i]? = some x → p x = false := by
  intro i x hx
  cases hp : p x with
  | false => rfl
  | true =>
    have hlt : l.findIdx p < l.length := List.findIdx_lt_length_of_exists ⟨x, List.mem_of_getElem? hx, hp⟩
    simp only [idx, if_pos hlt] at h
    omega
theorem idx_uniq {α : Type} {p : α → Bool} {l : List α} {n : Nat} {x : α} (hx : l[n]? = some x) (hp : p x = true) (hu : ∀ (i : Nat) (y : α), l[i]? = some y → p y = true → i = n) : idx p l = n := by
  have h0 : ¬ idx p l < 0 := by
    intro h
    have := idx_neg h n x hx
    rw [hp] at this; cases this
  obtain ⟨i, y, h1, h2, h3⟩ := idx_nonneg h0
  rw [h1, hu i y h2 h3]
theorem set_cases {α : Type} {l : List α} {n i : Nat} {v x : α} (h : (l.set n v)[i]? = some x) : (i = n ∧ x = v) ∨ (i ≠ n ∧ l[i]? = some x) := by
  by_cases e : i = n
  · subst e
    have hl : i < l.length := by have := (List.getElem?_eq_some_iff.1 h).1; simpa using this
    rw [List.getElem?_set_self hl] at h
    exact .inl ⟨rfl, (Option.some.inj h).symm⟩
  · rw [List.getElem?_set_ne (Ne.symm e)] at h
    exact .inr ⟨e, h⟩
theorem count_set {l : List (Option Ent)} {n : Nat} {x y : Option Ent} (h : l[n]? = some y) : count (l.set n x) + (if y.isSome then 1 else 0) = count l + (if x.isSome then 1 else 0) := by
  induction l generalizing n with
  | nil => simp at h
  | cons a l ih =>
    cases n with
    | zero =>
      simp at h; subst h
      simp only [count, List.set_cons_zero, List.filter_cons]
      cases a <;> cases x <;> simp
    | succ n =>
      have := ih (n := n) (by simpa using h)
      simp only [count, List.set_cons_succ, List.filter_cons] at this ⊢
      cases a <;> simp at this ⊢ <;> omega
theorem isV_ne {v : Vip} {e : Ent} (h : ¬ e.v = v) : isV v (some e) = false := by simp [isV, h]
/-- A VIP is added where nobody was. -/
theorem rel_new {l : List (Option Ent)} {n : Nat} {e : Ent} (hn : l[n]? = some none) (h0 : tIdx l e.v < 0) (v : Vip) : tIdx (l.set n (some e)) v = if v = e.v then (n : Int) else tIdx l v := by
  have hlt : n < l.length := (List.getElem?_eq_some_iff.1 hn).1
  by_cases hv : v = e.v
  · subst hv
    rw [if_pos rfl]
    refine idx_uniq (x := some e) (List.getElem?_set_self hlt) (by simp [isV]) fun i y hy hp => ?_
    rcases set_cases hy with ⟨rfl, _⟩ | ⟨_, hy⟩
    · rfl
    · rw [idx_neg h0 i y hy] at hp; cases hp
  · rw [if_neg hv]
    exact idx_set_same hn (by simp [isV]; exact fun h => hv h.symm)
/-- A VIP is taken away. -/
theorem rel_del {l : List (Option Ent)} {n : Nat} {e : Ent} (hn : l[n]? = some (some e)) (hu : ∀ (i j : Nat) (e e' : Ent), l[i]? = some (some e) → l[j]? = some (some e') → e.v = e'.v → i = j) (v : Vip) : tIdx (l.set n none) v = if v = e.v then -1 else tIdx l v := by
  by_cases hv : v = e.v
  · subst hv
    rw [if_pos rfl]
    refine idx_none fun i x hx => ?_
    rcases set_cases hx with ⟨_, rfl⟩ | ⟨hi, hx⟩
    · rfl
    · cases x with
      | none => rfl
      | some e' =>
        by_cases h : e'.v = e.v
        · exact absurd (hu i n e' e hx hn h) hi
        · exact isV_ne h
  · rw [if_neg hv]
    exact idx_set_same hn (by simp [isV]; exact fun h => hv h.symm)
theorem put_cfg {cs vs : List Value} {off : Nat} (h : 48 ≤ off) (hb : off + vs.length ≤ cs.length) : (putAt cs off vs).take 48 = cs.take 48 := by
  apply List.ext_getElem?
  intro k
  rw [List.getElem?_take, List.getElem?_take, putAt_get hb]
  split
  · rw [if_pos (by omega)]
  · rfl
theorem put_map {cs vs : List Value} {off : Nat} (h : off + vs.length ≤ 368) (hb : off + vs.length ≤ cs.length) : (putAt cs off vs)[368]? = cs[368]? := by
  rw [putAt_get hb, if_neg (by omega), if_neg (by omega)]
/-- The table behind an entry's store. -/
theorem TabO.add {w w' : World} {F : Nat → Prop} {bt bm : Nat} {cs : List Value} {ml : List (Vip × Value)} {Fs : Nat → Nat → Prop} {c : Cfg} {l : List (Option Ent)} {n : Nat} {e : Ent} {Fp : Nat → Prop}
    (H : TabO w F bt bm cs ml Fs c l) (hn : l[n]? = some none) (h0 : tIdx l e.v < 0) (hsz : w.heap.size ≤ w'.heap.size)
    (hA : SlO encE 20 w' bt 48 16 (putAt cs (48 + n * 20) (encE (some e))) (l.set n (some e))) (hM : MapAt encVv w' bm (ml ++ [(e.v, i64 n)]))
    (hP : PoolAt w' Fp e.b c e.p) (hFp : ∀ k, Fp k → w.heap.size ≤ k) (hold : ∀ (i : Nat) (q : Ent), l[i]? = some (some q) → PoolAt w' (Fs i) q.b c q.p) :
    TabO w' (fun k => F k ∨ Fp k) bt bm (putAt cs (48 + n * 20) (encE (some e))) (ml ++ [(e.v, i64 n)]) (fun i k => if i = n then Fp k else Fs i k) c (l.set n (some e)) := by
  have hlt : n < l.length := (List.getElem?_eq_some_iff.1 hn).1
  have h16 := H.len
  have hel : (encE (some e)).length = 20 := rfl
  have hbd : 48 + n * 20 + (encE (some e)).length ≤ cs.length := by rw [H.clen, hel]; omega
  refine { arr := hA, len := by simpa using h16, clen := by rw [putAt_length hbd]; exact H.clen, cfg := by rw [put_cfg (by omega) hbd]; exact H.cfg,
           map := by rw [put_map (by rw [hel]; omega) hbd]; exact H.map, mp := hM, rel := fun v => ?_, mlen := ?_, uniq := ?_, pool := ?_, disj := ?_,
           ft := .inl H.ft, fm := .inl H.fm, ne := H.ne, lt := ?_, ok := H.ok }
  · rw [mget_append, H.rel v, rel_new hn h0 v]
    by_cases hv : v = e.v
    · subst hv
      rw [if_pos h0, if_pos rfl, if_neg (by omega)]
      simp [mget]
    · simp only [hv, if_false, mget]
      split <;> simp
  · have := count_set (x := some e) hn
    simp at this ⊢
    rw [H.mlen]; omega
  · intro i j q q' h1 h2 hv
    rcases set_cases h1 with ⟨rfl, e1⟩ | ⟨hi, g1⟩ <;> rcases set_cases h2 with ⟨rfl, e2⟩ | ⟨hj, g2⟩
    · rfl
    · cases e1
      have := idx_neg h0 j _ g2
      simp [isV, hv] at this
    · cases e2
      have := idx_neg h0 i _ g1
      simp [isV, hv] at this
    · exact H.uniq i j q q' g1 g2 hv
  · intro i q h1
    rcases set_cases h1 with ⟨rfl, e1⟩ | ⟨hi, h1⟩
    · cases e1
      refine ⟨by simpa using hP, fun k hk => ?_⟩
      simp at hk
      have := hFp k hk
      have := H.lt _ H.ft
      have := H.lt _ H.fm
      exact ⟨.inr hk, by omega, by omega⟩
    · simp only [hi, if_false]
      exact ⟨hold i q h1, fun k hk => ⟨.inl ((H.pool i q h1).2 k hk).1, ((H.pool i q h1).2 k hk).2⟩⟩
  · intro i j k q q' h1 h2 hk1 hk2
    rcases set_cases h1 with ⟨rfl, e1⟩ | ⟨hi, g1⟩ <;> rcases set_cases h2 with ⟨rfl, e2⟩ | ⟨hj, g2⟩
    · rfl
    · simp only [if_true, hj, if_false] at hk1 hk2
      have := hFp k hk1
      have := H.lt k ((H.pool j q' g2).2 k hk2).1
      omega
    · simp only [if_true, hi, if_false] at hk1 hk2
      have := hFp k hk2
      have := H.lt k ((H.pool i q g1).2 k hk1).1
      omega
    · simp only [hi, hj, if_false] at hk1 hk2
      exact H.disj i j k q q' g1 g2 hk1 hk2
  · rintro k (hk | hk)
    · exact Nat.lt_of_lt_of_le (H.lt k hk) hsz
    · exact hP.lt k hk
theorem TabO.del {w w' : World} {F : Nat → Prop} {bt bm : Nat} {cs : List Value} {ml : List (Vip × Value)} {Fs : Nat → Nat → Prop} {c : Cfg} {l : List (Option Ent)} {n : Nat} {e : Ent}
    (H : TabO w F bt bm cs ml Fs c l) (hn : l[n]? = some (some e)) (hsz : w.heap.size ≤ w'.heap.size)
    (hA : SlO encE 20 w' bt 48 16 (putAt cs (48 + n * 20) (encE none)) (l.set n none)) (hM : MapAt encVv w' bm (mdel e.v ml))
    (hold : ∀ (i : Nat) (q : Ent), l[i]? = some (some q) → PoolAt w' (Fs i) q.b c q.p) :
    TabO w' F bt bm (putAt cs (48 + n * 20) (encE none)) (mdel e.v ml) Fs c (l.set n none) := by
  have hlt : n < l.length := (List.getElem?_eq_some_iff.1 hn).1
  have h16 := H.len
  have hel : (encE none).length = 20 := rfl
  have hbd : 48 + n * 20 + (encE none).length ≤ cs.length := by rw [H.clen, hel]; omega
  have hold' : ∀ {i : Nat} {q : Ent}, (l.set n none)[i]? = some (some q) → l[i]? = some (some q) := fun h => by
    rcases set_cases h with ⟨_, e1⟩ | ⟨_, h⟩
    · cases e1
    · exact h
  have hself : tIdx l e.v = n := idx_uniq hn (by simp [isV]) fun i y hy hp => by
    cases y with
    | none => cases hp
    | some q => exact H.uniq i n q e hy hn (by simpa [isV] using hp)
  have hget : mget e.v ml = some (i64 n) := by rw [H.rel, hself, if_neg (by omega)]
  refine { arr := hA, len := by simpa using h16, clen := by rw [putAt_length hbd]; exact H.clen, cfg := by rw [put_cfg (by omega) hbd]; exact H.cfg,
           map := by rw [put_map (by rw [hel]; omega) hbd]; exact H.map, mp := hM, rel := fun v => ?_, mlen := ?_, uniq := fun i j q q' h1 h2 => H.uniq i j q q' (hold' h1) (hold' h2),
           pool := fun i q h1 => ⟨hold i q (hold' h1), (H.pool i q (hold' h1)).2⟩, disj := fun i j k q q' h1 h2 => H.disj i j k q q' (hold' h1) (hold' h2),
           ft := H.ft, fm := H.fm, ne := H.ne, lt := fun k hk => Nat.lt_of_lt_of_le (H.lt k hk) hsz, ok := H.ok }
  · rw [mget_mdel H.mp.nodup, H.rel v, rel_del hn H.uniq v]
    by_cases hv : v = e.v
    · simp [hv]
    · simp [hv]
  · rw [mdel_length, hget, H.mlen]
    have := count_set (x := none) hn
    simp at this ⊢
    omega

end Go.Proofs.Ytkjecokkdbapkaa
