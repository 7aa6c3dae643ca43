/- What functions of the program and of the reference come to, walked one by one, and plain laws about it: part 4. No condition is added to the statement. -/
import Derived.Test.YtmnngolehecpjaaGreatZ2
namespace Go.Lead
open Go
set_option linter.unusedSimpArgs false
set_option linter.unusedVariables false
set_option maxRecDepth 100000
set_option maxHeartbeats 1000000
theorem follows_spec {h : Hp} {b : Nat} {s2 : Sl} {σ : SysP} {S p : Nat → Bool} {fid : FuncId} {u w : Array Value} {R : Value → Hp → Prop} (hs : SysS h b σ) (ok : σ.Ok) (hS : BoolT h s2 (2 ^ σ.n) S)
  (hp : Asks h fid u w (2 ^ (σ.n + σ.k)) p)
  (k : ∀ b' T h', Kn h h' [(b', .inl ⟨tb (2 ^ σ.n) T, 2 ^ σ.n, false⟩)] → (∀ j, j < 2 ^ σ.n → T j = σ.fwd p S j) → R (arr b' (2 ^ σ.n)).v h') :
  c_impl_system_follows #[.pointer (some ⟨b, 0, none⟩), s2.v, .func (.func fid) u w] h R := by
 apply R_impl_system_follows
 unfold F_impl_system_follows
 have hn := pow_n8 ok
 have hk := pow_k5 ok
 have h8 := ok.nle
 have h5 := ok.kle
 have hl := hS.len
 obtain ⟨M, st, hold, bad, next, fx, _, _, hnt⟩ := id hs
 have K0 := Kn.nil h
 rw [hl]
 refine ⟨Int.natCast_nonneg _, Int.le_refl _, by omega, by omega, ?_⟩
 (with_reducible apply Kn.al); (assumption); (intro b8 h1 K1 l1 hb8)
 rw [Int.toNat_natCast, Nat.mul_one, zeroRow_one, tb_zero] at K1
 rw [Int.toNat_natCast]
 refine loop_up (2 ^ σ.n) (fun s vs h' => vs = [.pointer (some ⟨b, 0, none⟩), s2.v, .func (.func fid) u w, (arr b8 (2 ^ σ.n)).v, s2.v, I (2 ^ σ.n : Nat), I s] ∧
  ∃ T, Kn h h' [(b8, .inl ⟨tb (2 ^ σ.n) T, 2 ^ σ.n, false⟩)] ∧ ∀ x, T x = true ↔ ∃ s' i', s' < s ∧ i' < 2 ^ σ.k ∧ S s' = true ∧ p (σ.at_ s' i') = true ∧ σ.next (σ.at_ s' i') = x)
  ⟨rfl, _, K1, fun x => ⟨fun e => by simp at e, fun ⟨s', i', e, _⟩ => by omega⟩⟩ ?_
 clear K1 K0 l1 hb8 h1
 rintro s _ h1 nxt hs' ⟨rfl, T, K1, hT⟩ hnx
 refine ⟨_, s2, _, _, _, arr b8 _, s2, _, _, rfl, ?_⟩
 by_cases hlt : s < 2 ^ σ.n
 rotate_left
 ·refine bs_f (by rw [decide_eq_false_iff_not]; omega) ?_
  have hse : s = 2 ^ σ.n := by omega
  rw [hl]
  refine ⟨Int.natCast_nonneg _, Int.le_refl _, by omega, by omega, ?_⟩
  (with_reducible apply Kn.al); (assumption); (intro b84 h2 K2 l2 hb84)
  rw [Int.toNat_natCast, Nat.mul_one, zeroRow_one, tb_zero] at K2
  rw [Int.toNat_natCast]
  refine loop_up (2 ^ σ.n) (fun t vs h' => vs = [.pointer (some ⟨b, 0, none⟩), (arr b8 (2 ^ σ.n)).v, (arr b84 (2 ^ σ.n)).v, I (2 ^ σ.n : Nat), I t] ∧
   ∃ U, Kn h h' [(b84, .inl ⟨tb (2 ^ σ.n) U, 2 ^ σ.n, false⟩), (b8, .inl ⟨tb (2 ^ σ.n) T, 2 ^ σ.n, false⟩)] ∧ ∀ j, j < t → U j = σ.fwd p S j)
   ⟨rfl, _, K2, fun j hj => by omega⟩ ?_
  clear K2 l2 hb84 h2
  rintro t _ h2 nxt2 ht ⟨rfl, U, K2, hU⟩ hnx2
  refine ⟨_, arr b8 _, arr b84 _, _, _, rfl, ?_⟩
  by_cases hlt2 : t < 2 ^ σ.n
  rotate_left
  ·refine bs_f (by rw [decide_eq_false_iff_not]; omega) ?_
   exact k b84 U h2 (K2.sub (fun e he => by rw [List.mem_singleton] at he; subst he; exact .head _) (by simp)) fun j hj => hU j (by omega)
  refine bs_t (by rw [decide_eq_true_eq]; exact_mod_cast hlt2) ?_
  refine ex_ptrA ?_
  (refine kr_ ?_)
  have hfx := ok.fixed
  rw [andW_nat (by omega) (by omega)]
  have hle : t &&& σ.fixed ≤ t := Nat.and_le_left
  refine ⟨b8, 0, rfl, by omega, by dsimp only; omega, ?_⟩
  refine Kn.rd K2 (.tail _ (.head _)) (x := T (t &&& σ.fixed)) (by rw [Nat.zero_add, Nat.mul_one, Int.toNat_natCast]; exact tb_get (by omega)) ?_
  refine ⟨b84, 0, rfl, by omega, by dsimp only; omega, ?_⟩
  (((with_reducible apply Kn.wr); (assumption); ((focus ((repeat first | exact .head | apply Upd.tail); done)))))
  ·rw [tb_len]; omega
  intro h3 K3 _
  rw [lset_one, Nat.zero_add, Int.toNat_natCast, Nat.mul_one, tb_set] at K3
  rw [W_succ (by omega)]
  refine hnx2 hlt2 _ _ ⟨rfl, _, K3, fun j hj => ?_⟩
  by_cases e : j = t
  ·subst e
   rw [if_pos rfl, Bool.eq_iff_iff, hT, SysP.fwd_iff]
   constructor
   ·rintro ⟨s', i', q1, q2, q3, q4, q5⟩
    exact ⟨s', i', by omega, q2, q3, q4, by unfold SysP.goes; rw [decide_eq_true_eq]; exact q5.symm⟩
   ·rintro ⟨s', i', q1, q2, q3, q4, q5⟩
    unfold SysP.goes at q5
    rw [decide_eq_true_eq] at q5
    exact ⟨s', i', by omega, q2, q3, q4, q5.symm⟩
  ·rw [if_neg e]; exact hU j (by omega)
 refine bs_t (by rw [decide_eq_true_eq]; exact_mod_cast hlt) ?_
 obtain ⟨bS, oS, ha, hlt', hc⟩ := (hS.mono K1.le).get hlt
 refine ⟨bS, oS, ha, by omega, hlt', _, hc, ?_⟩
 refine ex_ptrA ?_
 (refine kr_ ?_)
 rw [if_neg (by omega), shlW_one (by omega)]
 refine loop_up (2 ^ σ.k) (fun i vs h' => vs = [.pointer (some ⟨b, 0, none⟩), s2.v, .func (.func fid) u w, (arr b8 (2 ^ σ.n)).v, I s, .bool (S s), s2.v, I (2 ^ σ.n : Nat), I s, I (2 ^ σ.k : Nat), I i] ∧
  ∃ T, Kn h h' [(b8, .inl ⟨tb (2 ^ σ.n) T, 2 ^ σ.n, false⟩)] ∧ ∀ x, T x = true ↔ ∃ s' i', (s' < s ∨ s' = s ∧ i' < i) ∧ i' < 2 ^ σ.k ∧ S s' = true ∧ p (σ.at_ s' i') = true ∧ σ.next (σ.at_ s' i') = x)
  ⟨rfl, T, K1, fun x => ?_⟩ ?_
 ·rw [hT]
  constructor
  ·rintro ⟨s', i', q1, q⟩; exact ⟨s', i', .inl q1, q⟩
  ·rintro ⟨s', i', q1, q⟩; exact ⟨s', i', by omega, q⟩
 clear K1 hT T h1 hc hlt' ha bS oS
 rintro i _ h1 nxt2 hi ⟨rfl, T, K1, hT⟩ hnx2
 refine ⟨_, s2, _, _, _, arr b8 _, _, _, s2, _, _, _, _, rfl, ?_⟩
 by_cases hli : i < 2 ^ σ.k
 rotate_left
 ·refine bs_f (by rw [decide_eq_false_iff_not]; omega) ?_
  rw [W_succ (by omega)]
  refine hnx hlt _ _ ⟨rfl, T, K1, fun x => ?_⟩
  rw [hT]
  constructor
  ·rintro ⟨s', i', q1, q⟩; exact ⟨s', i', by omega, q⟩
  ·rintro ⟨s', i', q1, q2, q⟩; exact ⟨s', i', by omega, q2, q⟩
 refine bs_t (by rw [decide_eq_true_eq]; exact_mod_cast hli) ?_
 have fin : ∀ T' h', Kn h h' [(b8, .inl ⟨tb (2 ^ σ.n) T', 2 ^ σ.n, false⟩)] → (∀ x, T' x = true ↔ T x = true ∨ (S s = true ∧ p (σ.at_ s i) = true ∧ σ.next (σ.at_ s i) = x)) →
   nxt2 [.pointer (some ⟨b, 0, none⟩), s2.v, .func (.func fid) u w, (arr b8 (2 ^ σ.n)).v, I s, .bool (S s), s2.v, I (2 ^ σ.n : Nat), I s, I (2 ^ σ.k : Nat), I (W ((i : Int) + 1))] h' := by
  intro T' h' K hx
  rw [W_succ (by omega)]
  refine hnx2 hli _ _ ⟨rfl, T', K, fun x => ?_⟩
  rw [hx, hT]
  constructor
  ·rintro (⟨s', i', q1, q⟩ | ⟨q1, q2, q3⟩)
   ·exact ⟨s', i', by omega, q⟩
   ·exact ⟨s, i, by omega, hli, q1, q2, q3⟩
  ·rintro ⟨s', i', q1, q2, q3, q4, q5⟩
   by_cases e : s' = s ∧ i' = i
   ·obtain ⟨rfl, rfl⟩ := e
    exact .inr ⟨q3, q4, q5⟩
   ·exact .inl ⟨s', i', by omega, q2, q3, q4, q5⟩
 rw [joinP_eq]
 refine at_spec (hs.mono K1.le) ok hlt hli ⟨_, rfl, ?_⟩
 rw [joinP_eq]
 have hc := SysP.at_lt hlt hli
 refine bsplit_of (fun e => ?_) (fun e => ?_)
 ·refine hp _ hc h1 K1.le _ ⟨_, rfl, ?_⟩
  refine bsplit_of (fun e2 => ?_) (fun e2 => ?_)
  ·refine ex_ptrA ?_
   (refine kr_ ?_)
   obtain ⟨bx, ox, hax, hx1, hx2⟩ := (hnt.mono K1.le).get hc
   refine ⟨bx, ox, hax, by omega, hx1, _, hx2, ?_⟩
   have hnl := ok.next _ hc
   refine ⟨b8, 0, rfl, by omega, by dsimp only; omega, ?_⟩
   (((with_reducible apply Kn.wr); (assumption); ((focus ((repeat first | exact .head | apply Upd.tail); done)))))
   ·rw [tb_len]; omega
   intro h2 K2 _
   rw [lset_one, Nat.zero_add, Int.toNat_natCast, Nat.mul_one, tb_set] at K2
   refine fin _ h2 K2 fun x => ?_
   by_cases ex : x = σ.next (σ.at_ s i)
   ·rw [if_pos ex]; exact ⟨fun _ => .inr ⟨e, e2, ex.symm⟩, fun _ => rfl⟩
   ·rw [if_neg ex]
    exact ⟨fun q => .inl q, fun q => q.resolve_right fun q => ex q.2.2.symm⟩
  ·exact fin T h1 K1 fun x => ⟨fun q => .inl q, fun q => q.resolve_right fun q => by rw [q.2.1] at e2; cases e2⟩
 ·refine bs_f rfl ?_
  exact fin T h1 K1 fun x => ⟨fun q => .inl q, fun q => q.resolve_right fun q => by rw [q.1] at e; cases e⟩
theorem index_spec {h : Hp} {s : Sl} {N : Nat} {T : Nat → Bool} {R : Value → Hp → Prop} (hT : BoolT h s N T) (hN : N ≤ 1048576) (k1 : ∀ i : Nat, i < N → T i = true → R (I i) h) (k2 : anyB N T = false → R (I (-1)) h) :
  c_slices_Index_Sbool_bool #[s.v, .bool true] h R := by
 apply R_slices_Index_Sbool_bool
 unfold F_slices_Index_Sbool_bool
 have hl := hT.len
 rw [hl]
 refine loop_up N (fun i vs h' => vs = [s.v, .bool true, I N, I i] ∧ h' = h ∧ ∀ j, j < i → T j = false) ⟨rfl, rfl, fun j hj => by omega⟩ ?_
 rintro i _ _ next hi ⟨rfl, rfl, hj⟩ hnx
 refine ⟨s, _, _, _, rfl, ?_⟩
 by_cases hlt : i < N
 ·refine bs_t (by rw [decide_eq_true_eq]; exact_mod_cast hlt) ?_
  obtain ⟨b, o, ha, h1, h2⟩ := hT.get hlt
  refine ⟨b, o, ha, by omega, h1, _, h2, ?_⟩
  refine bsplit_of (fun e => ?_) (fun e => ?_)
  ·exact k1 i hlt (by simpa using e)
  ·rw [W_succ (by omega)]
   refine hnx hlt _ _ ⟨rfl, rfl, fun j hji => ?_⟩
   by_cases eq : j = i
   ·rw [eq]; simpa using e
   ·exact hj j (by omega)
 ·exact bs_f (by rw [decide_eq_false_iff_not]; omega) (k2 (anyB_no.2 fun j hjn => hj j (by omega)))
theorem contains_spec {h : Hp} {s : Sl} {N : Nat} {T : Nat → Bool} {R : Value → Hp → Prop} (hT : BoolT h s N T) (hN : N ≤ 1048576) (k : R (.bool (anyB N T)) h) :
  c_slices_Contains_Sbool_bool #[s.v, .bool true] h R := by
 apply R_slices_Contains_Sbool_bool
 unfold F_slices_Contains_Sbool_bool
 refine index_spec hT hN (fun i hi e => ⟨_, rfl, ?_⟩) fun e => ⟨_, rfl, ?_⟩
 ·refine b_leaf ?_ k
  rw [anyB_iff.2 ⟨i, hi, e⟩, decide_eq_true_eq]; omega
 ·refine b_leaf ?_ k
  rw [e]; rfl
def LayS (h : Hp) (s : Sl) (n m : Nat) (L : Nat → Nat → Bool) : Prop := ∃ ts : List Sl, ts.length = m ∧ SlC h s 1 (ts.map Sl.v) ∧ ∀ (j : Nat) (t : Sl), ts[j]? = some t → BoolT h t n (L j)
theorem LayS.mono {h h' : Hp} {s : Sl} {n m : Nat} {L : Nat → Nat → Bool} (l : h.le h') (e : LayS h s n m L) : LayS h' s n m L := by
 obtain ⟨ts, e1, e2, e3⟩ := e
 exact ⟨ts, e1, e2.mono l, fun j t ht => (e3 j t ht).mono l⟩
theorem LayS.len {h : Hp} {s : Sl} {n m : Nat} {L : Nat → Nat → Bool} (e : LayS h s n m L) : s.n = m := by
 obtain ⟨ts, e1, e2, _⟩ := e
 have := e2.2.1
 simp at this; omega
theorem LayS.get {h : Hp} {s : Sl} {n m i : Nat} {L : Nat → Nat → Bool} (e : LayS h s n m L) (hi : i < m) :
  ∃ b o t, s.a = some (Addr.mk b o none) ∧ (i : Int) < (s.n : Int) ∧ Hp.cell h b (o + Int.toNat (i : Int) * 1) = some (Sl.v t) ∧ BoolT h t n (L i) := by
 have hl := e.len
 obtain ⟨ts, e1, e2, e3⟩ := e
 obtain ⟨t, ht⟩ : ∃ t, ts[i]? = some t := ⟨_, List.getElem?_eq_getElem (by omega)⟩
 obtain ⟨b, o, ha, hc⟩ := SlC.get e2 (by omega)
 refine ⟨b, o, t, ha, by omega, ?_, e3 i t ht⟩
 rw [Int.toNat_natCast, Nat.mul_one]
 exact hc i _ (by simp [ht])
theorem layers_spec {h : Hp} {b : Nat} {σ : SysP} {R : Value → Hp → Prop} (hs : SysS h b σ) (ok : σ.Ok)
  (k : ∀ s h', h.le h' → LayS h' s (2 ^ σ.n) σ.nLay σ.front → R (Sl.v s) h') : c_impl_system_layers #[.pointer (some ⟨b, 0, none⟩)] h R := by
 apply R_impl_system_layers
 unfold F_impl_system_layers
 have hn := pow_n8 ok
 have h8 := ok.nle
 obtain ⟨M, st, hold, bad, next, fx, _⟩ := id hs
 have K0 := Kn.nil h
 refine ex_ptrA ?_
 (refine kr_ ?_)
 rw [if_neg (by omega), shlW_one (by omega)]
 refine ⟨Int.natCast_nonneg _, Int.le_refl _, by omega, by omega, ?_⟩
 (with_reducible apply Kn.al); (assumption); (intro b7 h1 K1 l1 hb7)
 rw [Int.toNat_natCast, Nat.mul_one, zeroRow_one, tb_zero] at K1
 refine ex_ptrA ?_
 (refine kr_ ?_)
 rw [if_neg (by omega), shlW_one (by omega)]
 refine ⟨Int.natCast_nonneg _, Int.le_refl _, by omega, by omega, ?_⟩
 (with_reducible apply Kn.al); (assumption); (intro b13 h2 K2 l2 hb13)
 rw [Int.toNat_natCast, Nat.mul_one, zeroRow_one, tb_zero] at K2
 rw [Int.toNat_natCast]
 refine loop_up (2 ^ σ.n) (fun i vs h' => vs = [.pointer (some ⟨b, 0, none⟩), (arr b7 (2 ^ σ.n)).v, (arr b13 (2 ^ σ.n)).v, I (2 ^ σ.n : Nat), I i] ∧
  ∃ U, Kn h h' [(b13, .inl ⟨tb (2 ^ σ.n) U, 2 ^ σ.n, false⟩), (b7, .inl ⟨tb (2 ^ σ.n) fun _ => false, 2 ^ σ.n, false⟩)] ∧ ∀ j, j < i → U j = σ.begins j)
  ⟨rfl, _, K2, fun j hj => by omega⟩ ?_
 clear K2 K1 K0 l1 l2 hb7 hb13 h1 h2
 rintro i _ h1 nxt hi ⟨rfl, U, K1, hU⟩ hnx
 refine ⟨_, arr b7 _, arr b13 _, _, _, rfl, ?_⟩
 by_cases hlt : i < 2 ^ σ.n
 ·refine bs_t (by rw [decide_eq_true_eq]; exact_mod_cast hlt) ?_
  refine begins_spec (hs.mono K1.le) ok hlt ⟨_, rfl, ?_⟩
  refine ⟨b13, 0, rfl, by omega, by dsimp only; omega, ?_⟩
  (((with_reducible apply Kn.wr); (assumption); ((focus ((repeat first | exact .head | apply Upd.tail); done)))))
  ·rw [tb_len]; omega
  intro h2 K2 _
  rw [lset_one, Nat.zero_add, Int.toNat_natCast, Nat.mul_one, tb_set] at K2
  rw [W_succ (by omega)]
  refine hnx hlt _ _ ⟨rfl, _, K2, fun j hj => ?_⟩
  by_cases e : j = i
  ·rw [if_pos e, e]
  ·rw [if_neg e]; exact hU j (by omega)
 refine bs_f (by rw [decide_eq_false_iff_not]; omega) ?_
 replace hU : ∀ j, j < 2 ^ σ.n → U j = σ.front 0 j := fun j hj => hU j (by omega)
 clear hnx hi hlt
 refine loop_up (2 ^ σ.n) (fun i vs h' => ∃ (out : Sl) (g : Hp) (bF : Nat) (F V : Nat → Bool) (ts : List Sl), vs = [.pointer (some ⟨b, 0, none⟩), (arr b7 (2 ^ σ.n)).v, (arr bF (2 ^ σ.n)).v, out.v] ∧
  h.le g ∧ Kn g (h'.offS out) [(bF, .inl ⟨tb (2 ^ σ.n) F, 2 ^ σ.n, false⟩), (b7, .inl ⟨tb (2 ^ σ.n) V, 2 ^ σ.n, false⟩)] ∧ Buf h' out 1 (ts.map Sl.v) ∧ ts.length = i ∧
  (∀ (j : Nat) (t : Sl), ts[j]? = some t → BoolT g t (2 ^ σ.n) (σ.front j)) ∧ (∀ j, j < 2 ^ σ.n → F j = σ.front i j) ∧ (∀ j, j < 2 ^ σ.n → V j = σ.seen i j) ∧ ∀ j, j < i → σ.live j = true)
  ⟨⟨none, 0, 0⟩, h, b13, U, _, [], rfl, Hp.le_refl _, K1, buf_nil _ _, rfl, fun j t ht => by simp at ht, hU, fun _ _ => rfl, fun j hj => by omega⟩ ?_
 clear K1 hU U h1 b13
 rintro i _ h1 nxt hi ⟨out, g, bF, F, V, ts, rfl, lg, K1, hB, htl, ht, hF, hV, hlive⟩ hnx
 refine ⟨_, arr b7 _, arr bF _, out, rfl, ?_⟩
 have K1' := K1.mono (offS_le h1 out)
 have hbF : BoolT h1 (arr bF (2 ^ σ.n)) (2 ^ σ.n) (σ.front i) := boolT_of (by omega) (K1'.at (.head _)) hF
 have hon := hB.1
 rw [List.length_map, Nat.mul_one] at hon
 refine contains_spec hbF (by omega) ⟨_, rfl, ?_⟩
 refine bsplit_of (fun e => ?_) (fun e => ?_)
 rotate_left
 ·have hnl : σ.nLay = i := SysP.nLay_of hlive e
  exact k out h1 (Hp.le_trans lg K1'.le) ⟨ts, by omega, hB.slc_of (by omega), fun j t hj => (ht j t hj).mono K1'.le⟩
 have hlive' : ∀ j, j < i + 1 → σ.live j = true := fun j hj => by
  by_cases e2 : j = i
  ·rw [e2]; exact e
  ·exact hlive j (by omega)
 have hlt : i < 2 ^ σ.n := SysP.live_le hlive'
 refine alloc_of fun b55 h2 hb55 l2 f55 => ?_
 refine aApp_buf (hB.mono l2) (by omega) (by omega) (by omega) ⟨b55, 0, rfl, cellsAre_of f55⟩ (by simp) rfl ?_
 intro s' h3 hs'n hB' l3 _
 have K2 := K1.mono (Hp.le_trans (offS_mono out l2) l3)
 obtain ⟨K3, K4⟩ := Kn.split (A := [(bF, .inl ⟨tb (2 ^ σ.n) F, 2 ^ σ.n, false⟩)]) (B := [(b7, .inl ⟨tb (2 ^ σ.n) V, 2 ^ σ.n, false⟩)]) K2
 have lg1 := K4.le
 have fF := K4.at (.head _)
 generalize (h3.offS s').wo (([(b7, .inl ⟨tb (2 ^ σ.n) V, 2 ^ σ.n, false⟩)] : List (Nat × Blk)).map Prod.fst) = g1 at *
 have lh := Hp.le_trans lg lg1
 have lh3 := Hp.le_trans lh (Hp.le_trans K3.le (offS_le h3 s'))
 have tF : BoolT g1 (arr bF (2 ^ σ.n)) (2 ^ σ.n) (σ.front i) := boolT_of (by omega) fF hF
 refine follows_spec (hs.mono lh3) ok (tF.mono (Hp.le_trans K3.le (offS_le h3 s'))) (fun c hc h' l R kk => holding_spec ((hs.mono lh3).mono l) hc kk) fun bN T h4 K5 hT => ⟨_, rfl, ?_⟩
 have hbN : h3 bN = none := K5.new _ (.head _)
 have K6 := K3.cons (b := bN) (none_of_le (offS_le h3 s') hbN) (offS_mono s' K5.le) (hB'.offS_new hbN (K5.at (.head _)))
 have hB4 := hB'.mono K5.le
 refine loop_up (2 ^ σ.n) (fun x vs h' => vs = [.pointer (some ⟨b, 0, none⟩), (arr b7 (2 ^ σ.n)).v, (arr bF (2 ^ σ.n)).v, s'.v, (arr bN (2 ^ σ.n)).v, I (2 ^ σ.n : Nat), I x] ∧
  ∃ T V, Kn g1 (h'.offS s') [(bN, .inl ⟨tb (2 ^ σ.n) T, 2 ^ σ.n, false⟩), (b7, .inl ⟨tb (2 ^ σ.n) V, 2 ^ σ.n, false⟩)] ∧ Buf h' s' 1 (ts.map Sl.v ++ [(arr bF (2 ^ σ.n)).v]) ∧
   (∀ j, j < 2 ^ σ.n → T j = if j < x then σ.front (i + 1) j else σ.fwd σ.hold (σ.front i) j) ∧ ∀ j, j < 2 ^ σ.n → V j = if j < x then σ.seen (i + 1) j else σ.seen i j)
  ⟨rfl, T, V, K6, hB4, fun j hj => by rw [if_neg (by omega)]; exact hT j hj, fun j hj => by rw [if_neg (by omega)]; exact hV j hj⟩ ?_
 clear K6 hB4 hT hV K5
 rintro x _ h5 nxt2 hx ⟨rfl, T, V, K, B, hT, hV⟩ hnx2
 refine ⟨_, arr b7 _, arr bF _, s', arr bN _, _, _, rfl, ?_⟩
 by_cases hlx : x < 2 ^ σ.n
 rotate_left
 ·refine bs_f (by rw [decide_eq_false_iff_not]; omega) ?_
  refine hnx hlt _ _ ⟨s', g1, bN, T, V, ts ++ [arr bF (2 ^ σ.n)], rfl, lh, K, by rw [List.map_append]; exact B, by simp [htl], fun j t hj => ?_, fun j hj => by rw [hT j hj, if_pos (by omega)],
   fun j hj => by rw [hV j hj, if_pos (by omega)], hlive'⟩
  by_cases hji : j < i
  ·rw [List.getElem?_append_left (by omega)] at hj
   exact (ht j t hj).mono lg1
  ·have hj2 := get_lt hj
   simp at hj2
   rw [List.getElem?_append_right (by omega), show j - ts.length = 0 by omega] at hj
   simp at hj; subst hj
   rw [show j = i by omega]; exact tF
 refine bs_t (by rw [decide_eq_true_eq]; exact_mod_cast hlx) ?_
 refine joinP_of (fun J => ∀ h'' V', Kn g1 (h''.offS s') [(bN, .inl ⟨tb (2 ^ σ.n) T, 2 ^ σ.n, false⟩), (b7, .inl ⟨tb (2 ^ σ.n) V', 2 ^ σ.n, false⟩)] → Buf h'' s' 1 (ts.map Sl.v ++ [(arr bF (2 ^ σ.n)).v]) →
  (∀ j, j < 2 ^ σ.n → V' j = if j < x + 1 then σ.seen (i + 1) j else σ.seen i j) → J h'') (fun h6 V' K6 B6 hV6 => ?_) (fun J hJ => ?_)
 ·have hTx : T x = σ.fwd σ.hold (σ.front i) x := by rw [hT x hlx, if_neg (by omega)]
  have hVx : V' x = σ.seen (i + 1) x := by rw [hV6 x hlx, if_pos (by omega)]
  have fin : ∀ v h7, v = σ.front (i + 1) x → Kn g1 (h7.offS s') [(bN, .inl ⟨(tb (2 ^ σ.n) T).set x (.bool v), 2 ^ σ.n, false⟩), (b7, .inl ⟨tb (2 ^ σ.n) V', 2 ^ σ.n, false⟩)] → Buf h7 s' 1 (ts.map Sl.v ++ [(arr bF (2 ^ σ.n)).v]) →
    nxt2 [.pointer (some ⟨b, 0, none⟩), (arr b7 (2 ^ σ.n)).v, (arr bF (2 ^ σ.n)).v, s'.v, (arr bN (2 ^ σ.n)).v, I (2 ^ σ.n : Nat), I (W ((x : Int) + 1))] h7 := by
   intro v h7 hv K7 B7
   rw [W_succ (by omega)]
   rw [tb_set] at K7
   refine hnx2 hlx _ _ ⟨rfl, _, V', K7, B7, fun j hj => ?_, hV6⟩
   by_cases e2 : j = x
   ·rw [if_pos e2, if_pos (by omega), e2]; exact hv
   ·rw [if_neg e2, hT j hj]
    by_cases e3 : j < x
    ·rw [if_pos e3, if_pos (by omega)]
    ·rw [if_neg e3, if_neg (by omega)]
  have K6' := K6.mono (offS_le h6 s')
  refine ⟨bN, 0, rfl, by omega, by dsimp only; omega, ?_⟩
  refine Kn.rd K6' (.head _) (x := T x) (by rw [Nat.zero_add, Nat.mul_one, Int.toNat_natCast]; exact tb_get hlx) ?_
  refine bsplit_of (fun e2 => ?_) (fun e2 => ?_)
  ·refine ⟨b7, 0, rfl, by omega, by dsimp only; omega, ?_⟩
   refine Kn.rd K6' (.tail _ (.head _)) (x := V' x) (by rw [Nat.zero_add, Nat.mul_one, Int.toNat_natCast]; exact tb_get hlx) ?_
   refine ⟨bN, 0, rfl, by omega, by dsimp only; omega, ?_⟩
   (with_reducible apply Kn.wrS); (exact K6); ((focus ((repeat first | exact .head | apply Upd.tail); done)))
   ·rw [tb_len]; omega
   intro h7 K7 B7 _
   rw [lset_one, Nat.zero_add, Int.toNat_natCast, Nat.mul_one] at K7
   exact fin _ h7 (by rw [SysP.front_succ, ← hTx, e2, hVx]; rfl) K7 (B7 _ _ B6)
  ·refine ⟨bN, 0, rfl, by omega, by dsimp only; omega, ?_⟩
   (with_reducible apply Kn.wrS); (exact K6); ((focus ((repeat first | exact .head | apply Upd.tail); done)))
   ·rw [tb_len]; omega
   intro h7 K7 B7 _
   rw [lset_one, Nat.zero_add, Int.toNat_natCast, Nat.mul_one] at K7
   exact fin _ h7 (by rw [SysP.front_succ, ← hTx, e2]; rfl) K7 (B7 _ _ B6)
 ·have hVx : V x = σ.seen i x := by rw [hV x hlx, if_neg (by omega)]
  have fin : ∀ v h7, v = σ.seen (i + 1) x → Kn g1 (h7.offS s') [(bN, .inl ⟨tb (2 ^ σ.n) T, 2 ^ σ.n, false⟩), (b7, .inl ⟨(tb (2 ^ σ.n) V).set x (.bool v), 2 ^ σ.n, false⟩)] → Buf h7 s' 1 (ts.map Sl.v ++ [(arr bF (2 ^ σ.n)).v]) → J h7 := by
   intro v h7 hv K7 B7
   rw [tb_set] at K7
   refine hJ h7 _ K7 B7 fun j hj => ?_
   by_cases e2 : j = x
   ·rw [if_pos e2, if_pos (by omega), e2]; exact hv
   ·rw [if_neg e2, hV j hj]
    by_cases e3 : j < x
    ·rw [if_pos e3, if_pos (by omega)]
    ·rw [if_neg e3, if_neg (by omega)]
  have K' := K.mono (offS_le h5 s')
  refine ⟨b7, 0, rfl, by omega, by dsimp only; omega, ?_⟩
  refine Kn.rd K' (.tail _ (.head _)) (x := V x) (by rw [Nat.zero_add, Nat.mul_one, Int.toNat_natCast]; exact tb_get hlx) ?_
  refine bsplit_of (fun e2 => ?_) (fun e2 => ?_)
  ·refine ⟨b7, 0, rfl, by omega, by dsimp only; omega, ?_⟩
   (with_reducible apply Kn.wrS); (exact K); ((focus ((repeat first | exact .head | apply Upd.tail); done)))
   ·rw [tb_len]; omega
   intro h7 K7 B7 _
   rw [lset_one, Nat.zero_add, Int.toNat_natCast, Nat.mul_one] at K7
   exact fin _ h7 (by rw [SysP.seen_succ, ← hVx, e2]; rfl) K7 (B7 _ _ B)
  ·refine ⟨bF, 0, rfl, by omega, by dsimp only; omega, ?_⟩
   refine Kn.rg K' fF (x := F x) (by rw [Nat.zero_add, Nat.mul_one, Int.toNat_natCast]; exact tb_get hlx) ?_
   refine ⟨b7, 0, rfl, by omega, by dsimp only; omega, ?_⟩
   (with_reducible apply Kn.wrS); (exact K); ((focus ((repeat first | exact .head | apply Upd.tail); done)))
   ·rw [tb_len]; omega
   intro h7 K7 B7 _
   rw [lset_one, Nat.zero_add, Int.toNat_natCast, Nat.mul_one] at K7
   exact fin _ h7 (by rw [SysP.seen_succ, ← hVx, e2, hF x hlx]; rfl) K7 (B7 _ _ B)
theorem depth_d1_spec {h : Hp} {b4 b z s c : Nat} {σ : SysP} {R : Value → Hp → Prop} (hs : SysS h b σ) (f : h b4 = some (.inl ⟨[.pointer (some ⟨b, 0, none⟩)], z, false⟩)) (hc : c < 2 ^ (σ.n + σ.k)) (k : R (.bool (σ.ends c)) h) :
  c_impl_system_depth_d1 #[I s, I c, .pointer (some ⟨b4, 0, none⟩)] h R := by
 apply R_impl_system_depth_d1
 unfold F_impl_system_depth_d1
 (refine rdx_ ?_)
 exact ends_spec hs hc ⟨_, rfl, k⟩
theorem depth_spec {h : Hp} {b : Nat} {s2 : Sl} {σ : SysP} {R : Value → Hp → Prop} (hs : SysS h b σ) (ok : σ.Ok) (hL : LayS h s2 (2 ^ σ.n) σ.nLay σ.front) (k : R (I σ.depthI) h) :
  c_impl_system_depth #[.pointer (some ⟨b, 0, none⟩), s2.v] h R := by
 refine ACalls.drop (R_impl_system_depth ?_)
 unfold F_impl_system_depth
 have hn := pow_n8 ok
 have hnl := SysP.nLay_le σ
 refine alloc_of fun b4 h1 hb4 l1 f4 => ?_
 (refine rdx_ ?_)
 refine some_spec (hs.mono l1) ok (f := fun _ c => σ.ends c) (fun s i hs' hi h' l R kk => depth_d1_spec ((hs.mono l1).mono l) (l _ _ f4) (SysP.at_lt hs' hi) kk) fun t h2 l2 ht' => ⟨_, rfl, ?_⟩
 have ht := ht'.mono (sub_le h2 h1)
 have l02 := Hp.le_trans l1 l2
 have hL2 := hL.mono l02
 have hl := hL.len
 rw [hl]
 refine loop_up σ.nLay (fun i vs h' => vs = [t.v, s2.v, I σ.nLay, I i] ∧ h2 = h' ∧ ∀ j, j < i → σ.hits j = false) ⟨rfl, rfl, fun j hj => by omega⟩ ?_
 rintro i _ _ nxt hi ⟨rfl, rfl, hno⟩ hnx
 refine ⟨t, s2, _, _, rfl, ?_⟩
 by_cases hlt : i < σ.nLay
 rotate_left
 ·refine bs_f (by rw [decide_eq_false_iff_not]; omega) ⟨h, l02, ?_⟩
  have : σ.depth = none := SysP.find_none.2 fun j hj => hno j (by omega)
  unfold SysP.depthI at k
  rw [this] at k; exact k
 refine bs_t (by rw [decide_eq_true_eq]; exact_mod_cast hlt) ?_
 obtain ⟨bl, ol, r, ha, h3, h4, hr⟩ := hL2.get hlt
 refine ⟨bl, ol, ha, by omega, h3, r, h4, ?_⟩
 have hrl := hr.len
 rw [hrl]
 refine loop_up (2 ^ σ.n) (fun j vs h' => vs = [t.v, I i, s2.v, I σ.nLay, I i, r.v, I (2 ^ σ.n : Nat), I j] ∧ h2 = h' ∧ ∀ x, x < j → (σ.front i x && σ.endsAt x) = false) ⟨rfl, rfl, fun j hj => by omega⟩ ?_
 rintro j _ _ nxt2 hj ⟨rfl, rfl, hno2⟩ hnx2
 refine ⟨t, _, s2, _, _, r, _, _, rfl, ?_⟩
 by_cases hlj : j < 2 ^ σ.n
 rotate_left
 ·refine bs_f (by rw [decide_eq_false_iff_not]; omega) ?_
  rw [W_succ (by omega)]
  refine hnx hlt _ _ ⟨rfl, rfl, fun x hx => ?_⟩
  by_cases e : x = i
  ·rw [e]; exact anyB_no.2 fun y hy => hno2 y (by omega)
  ·exact hno x (by omega)
 refine bs_t (by rw [decide_eq_true_eq]; exact_mod_cast hlj) ?_
 have go : (σ.front i j && σ.endsAt j) = false → nxt2 [t.v, I i, s2.v, I σ.nLay, I i, r.v, I (2 ^ σ.n : Nat), I (W ((j : Int) + 1))] h2 := fun e => by
  rw [W_succ (by omega)]
  refine hnx2 hlj _ _ ⟨rfl, rfl, fun x hx => ?_⟩
  by_cases e2 : x = j
  ·rw [e2]; exact e
  ·exact hno2 x (by omega)
 obtain ⟨br, or, har, hr1, hr2⟩ := hr.get hlj
 refine ⟨br, or, har, by omega, hr1, _, hr2, ?_⟩
 refine bsplit_of (fun e => ?_) (fun e => ?_)
 ·obtain ⟨bt, ot, hat, ht1, ht2⟩ := ht.get hlj
  refine ⟨bt, ot, hat, by omega, ht1, _, ht2, ?_⟩
  have he : σ.some_ (fun _ c => σ.ends c) j = σ.endsAt j := rfl
  refine bsplit_of (fun e2 => ?_) (fun e2 => ?_)
  ·refine ⟨h, l02, ?_⟩
   have : σ.depth = some i := SysP.depth_some.2 ⟨anyB_iff.2 ⟨j, hlj, by rw [e, ← he, e2]; rfl⟩, fun x hx => hno x hx⟩
   unfold SysP.depthI at k
   rw [this] at k; exact k
  ·exact go (by rw [← he, e2, Bool.and_false])
 ·exact go (by rw [e]; rfl)
def GrowX (X : List (Nat × Blk)) (s : Sl) (sz : Nat) (cs : List Value) : Prop :=
 cs.length = s.n * sz ∧ s.n ≤ s.c ∧ ((X = [] ∧ s = ⟨none, 0, 0⟩ ∧ cs = []) ∨ ∃ b, s.a = some ⟨b, 0, none⟩ ∧ X = [(b, .inl ⟨cs, s.c * sz, false⟩)])
theorem growX_nil (sz : Nat) : GrowX [] ⟨none, 0, 0⟩ sz [] := ⟨by simp, Nat.le_refl _, .inl ⟨rfl, rfl, rfl⟩⟩
theorem GrowX.buf {X : List (Nat × Blk)} {h : Hp} {s : Sl} {sz : Nat} {cs : List Value} (o : GrowX X s sz cs) (m : ∀ e ∈ X, h e.1 = some e.2) : Buf h s sz cs := by
 refine ⟨o.1, o.2.1, ?_⟩
 rcases o.2.2 with ⟨_, rfl, _⟩ | ⟨b, ha, rfl⟩
 ·exact .inl ⟨rfl, rfl, rfl⟩
 ·exact .inr ⟨b, ha, m _ (.head _)⟩
theorem Kn.perm {g h : Hp} {L L' : List (Nat × Blk)} (K : Kn g h L) (p : L.Perm L') : Kn g h L' := K.sub (fun e he => p.mem_iff.2 he) ((p.map Prod.fst).nodup_iff.1 K.nd)
theorem Kn.grow {g h : Hp} {X L : List (Nat × Blk)} {s : Sl} {sz by_ m : Nat} {cs news : List Value} {src : Option Addr} {C : Option Addr → Nat → Nat → Hp → Prop}
  (K : Kn g h (X ++ L)) (o : GrowX X s sz cs) (hm : 0 < m) (hsz : (s.n + m) * by_ ≤ 140737488355328) (hsz' : s.n + m ≤ 9223372036854775807)
  (hs : ∃ sb so, src = some ⟨sb, so, none⟩ ∧ cellsAre h sb so news) (hl : news.length = m * sz) (ho : news.all (·.oneCell') = true)
  (k : ∀ s' X' h', s'.n = s.n + m → GrowX X' s' sz (cs ++ news) → Kn g h' (X' ++ L) → (h.offS s).le h' → C s'.a s'.n s'.c h') : aApp h s.a s.n s.c src m sz by_ C := by
 refine aApp_buf (o.buf fun e he => K.mem e (List.mem_append_left _ he)) hm hsz hsz' hs hl ho fun s' h' hn B l _ => ?_
 have nd := K.nd
 rw [List.map_append, List.nodup_append] at nd
 have base : g.le (h.offS s) ∧ ∀ e ∈ L, (h.offS s) e.1 = some e.2 := by
  rcases o.2.2 with ⟨_, rfl, _⟩ | ⟨b, ha, rfl⟩
  ·exact ⟨K.le, fun e he => K.mem e (List.mem_append_right _ he)⟩
  ·unfold Hp.offS
   rw [ha]
   refine ⟨le_off (K.new (b, _) (.head _)) K.le, fun e he => ?_⟩
   have hne : e.1 ≠ b := fun hb => nd.2.2 b (by simp) e.1 (List.mem_map.2 ⟨e, he, rfl⟩) hb.symm
   simp only [Hp.off, Hp.set]
   rw [if_neg hne]; exact K.mem e (List.mem_append_right _ he)
 rcases B.2.2 with ⟨_, h0, _⟩ | ⟨b, ha, hb⟩
 ·omega
 have hoff : (h'.offS s') b = none := by simp [Hp.offS, ha, Hp.off, Hp.set]
 refine k s' [(b, .inl ⟨cs ++ news, s'.c * sz, false⟩)] h' hn ⟨B.1, B.2.1, .inr ⟨b, ha, rfl⟩⟩ ?_ (Hp.le_trans l (offS_le h' s'))
 have lo := offS_le h' s'
 have hg : g b = none := by
  cases hgb : g b with
  | none => rfl
  | some x => rw [l _ _ (base.1 _ _ hgb)] at hoff; cases hoff
 refine ⟨Hp.le_trans base.1 (Hp.le_trans l lo), fun e he => ?_, fun e he => ?_, ?_⟩
 ·rcases List.mem_cons.1 he with rfl | he
  ·exact hb
  ·exact lo _ _ (l _ _ (base.2 e he))
 ·rcases List.mem_cons.1 he with rfl | he
  ·exact hg
  ·exact K.new e (List.mem_append_right _ he)
 ·show (b :: L.map Prod.fst).Nodup
  rw [List.nodup_cons]
  refine ⟨fun hm => ?_, nd.2.1⟩
  obtain ⟨e, he, heb⟩ := List.mem_map.1 hm
  have := l _ _ (base.2 e he)
  rw [heb, hoff] at this; cases this
theorem Kn.growIn {g h : Hp} {A X L : List (Nat × Blk)} {s : Sl} {sz by_ m : Nat} {cs news : List Value} {src : Option Addr} {C : Option Addr → Nat → Nat → Hp → Prop}
  (K : Kn g h (A ++ (X ++ L))) (o : GrowX X s sz cs) (hm : 0 < m) (hsz : (s.n + m) * by_ ≤ 140737488355328) (hsz' : s.n + m ≤ 9223372036854775807)
  (hs : ∃ sb so, src = some ⟨sb, so, none⟩ ∧ cellsAre h sb so news) (hl : news.length = m * sz) (ho : news.all (·.oneCell') = true)
  (k : ∀ s' X' h', s'.n = s.n + m → GrowX X' s' sz (cs ++ news) → Kn g h' (A ++ (X' ++ L)) → (h.offS s).le h' → C s'.a s'.n s'.c h') : aApp h s.a s.n s.c src m sz by_ C := by
 have sw : ∀ Y : List (Nat × Blk), (A ++ (Y ++ L)).Perm (Y ++ (A ++ L)) := fun Y => by
  rw [← List.append_assoc, ← List.append_assoc]
  exact List.perm_append_comm.append_right L
 exact Kn.grow (K.perm (sw X)) o hm hsz hsz' hs hl ho fun s' X' h' hn o' K' l => k s' X' h' hn o' (K'.perm (sw X').symm) l
theorem Kn.growIn2 {g h : Hp} {A Y X L : List (Nat × Blk)} {s : Sl} {sz by_ m : Nat} {cs news : List Value} {src : Option Addr} {C : Option Addr → Nat → Nat → Hp → Prop}
  (K : Kn g h (A ++ (Y ++ (X ++ L)))) (o : GrowX X s sz cs) (hm : 0 < m) (hsz : (s.n + m) * by_ ≤ 140737488355328) (hsz' : s.n + m ≤ 9223372036854775807)
  (hs : ∃ sb so, src = some ⟨sb, so, none⟩ ∧ cellsAre h sb so news) (hl : news.length = m * sz) (ho : news.all (·.oneCell') = true)
  (k : ∀ s' X' h', s'.n = s.n + m → GrowX X' s' sz (cs ++ news) → Kn g h' (A ++ (Y ++ (X' ++ L))) → (h.offS s).le h' → C s'.a s'.n s'.c h') : aApp h s.a s.n s.c src m sz by_ C := by
 have sw : ∀ Z : List (Nat × Blk), (A ++ (Y ++ (Z ++ L))).Perm (A ++ (Z ++ (Y ++ L))) := fun Z => by
  refine List.Perm.append_left A ?_
  rw [← List.append_assoc, ← List.append_assoc]
  exact List.perm_append_comm.append_right L
 exact Kn.growIn (K.perm (sw X)) o hm hsz hsz' hs hl ho fun s' X' h' hn o' K' l => k s' X' h' hn o' (K'.perm (sw X').symm) l
theorem Kn.growIn3 {g h : Hp} {A Y Z X L : List (Nat × Blk)} {s : Sl} {sz by_ m : Nat} {cs news : List Value} {src : Option Addr} {C : Option Addr → Nat → Nat → Hp → Prop}
  (K : Kn g h (A ++ (Y ++ (Z ++ (X ++ L))))) (o : GrowX X s sz cs) (hm : 0 < m) (hsz : (s.n + m) * by_ ≤ 140737488355328) (hsz' : s.n + m ≤ 9223372036854775807)
  (hs : ∃ sb so, src = some ⟨sb, so, none⟩ ∧ cellsAre h sb so news) (hl : news.length = m * sz) (ho : news.all (·.oneCell') = true)
  (k : ∀ s' X' h', s'.n = s.n + m → GrowX X' s' sz (cs ++ news) → Kn g h' (A ++ (Y ++ (Z ++ (X' ++ L)))) → (h.offS s).le h' → C s'.a s'.n s'.c h') : aApp h s.a s.n s.c src m sz by_ C := by
 have sw : ∀ W : List (Nat × Blk), (A ++ (Y ++ (Z ++ (W ++ L)))).Perm (A ++ ((Y ++ Z) ++ (W ++ L))) := fun W => by rw [← List.append_assoc Y Z]
 exact Kn.growIn2 (K.perm (sw X)) o hm hsz hsz' hs hl ho fun s' X' h' hn o' K' l => k s' X' h' hn o' (K'.perm (sw X').symm) l
theorem GrowX.slc {X A L : List (Nat × Blk)} {g h : Hp} {s : Sl} {sz : Nat} {cs : List Value} (o : GrowX X s sz cs) (K : Kn g h (A ++ (X ++ L))) (hn : s.n ≤ 9223372036854775807) : SlC h s sz cs :=
 (o.buf fun e he => K.mem e (List.mem_append_right _ (List.mem_append_left _ he))).slc_of hn
theorem PVal.offG {X : List (Nat × Blk)} {h : Hp} {A s : Sl} {f : Nat → Bool} {n : Nat} {vs : List (List Nat)} (e : PVal h s vs) (o : GrowX X A 1 ((List.range n).map fun i => .bool (f i))) (m : ∀ e ∈ X, h e.1 = some e.2) : PVal (h.offS A) s vs := by
 rcases o.2.2 with ⟨_, rfl, _⟩ | ⟨b, ha, rfl⟩
 ·exact e
 ·unfold Hp.offS
  rw [ha]
  refine e.keep (m _ (.head _)) (fun j i hj => ?_) (fun j t hj => ?_) fun c hc => by simp [Hp.off, Hp.set, hc]
  ·simp only [List.getElem?_map, Option.map_eq_some_iff] at hj
   obtain ⟨a, _, hj⟩ := hj
   cases hj
  ·simp only [List.getElem?_map, Option.map_eq_some_iff] at hj
   obtain ⟨a, _, hj⟩ := hj
   cases hj
theorem PVal.keepB {h h' : Hp} {s : Sl} {b : Nat} {vs : List (List Nat)} (e : PVal h s vs) (n : ∀ o, s.a ≠ some (Addr.mk b o none)) (kp : ∀ c, c ≠ b → h' c = h c) (ki : ∀ o i, Hp.cell h b o = some (I i) → Hp.cell h' b o = some (I i)) : PVal h' s vs := by
 have hc : ∀ c o i, Hp.cell h c o = some (I i) → Hp.cell h' c o = some (I i) := fun c o i hi => by
  by_cases e2 : c = b
  ·subst e2; exact ki o i hi
  ·unfold Hp.cell at hi ⊢; rw [kp c e2]; exact hi
 refine ⟨e.1, e.2.1, fun p hp => ?_⟩
 obtain ⟨b', o, t, h1, h2, h3⟩ := e.2.2 p hp
 refine ⟨b', o, t, h1, ?_, h3.1, h3.2.1, h3.2.2.imp id ?_⟩
 ·have hne : b' ≠ b := by rintro rfl; exact n o h1
  unfold Hp.cell at h2 ⊢; rw [kp b' hne]; exact h2
 ·rintro ⟨c, o', ha, hcs⟩
  refine ⟨c, o', ha, fun i v hv => ?_⟩
  have hvI := hv
  rw [List.getElem?_map, Option.map_eq_some_iff] at hvI
  obtain ⟨x, _, rfl⟩ := hvI
  exact hc _ _ _ (hcs i _ hv)
structure MapQ where
 hs : Sl
 es : Sl
 ns : Sl
 fs : Sl
 bs : Sl
abbrev mapC (σ : SysP) (q : MapQ) : List Value := [I (2 ^ σ.n : Nat), I (2 ^ σ.k : Nat), q.hs.v, q.es.v, q.ns.v, q.fs.v, q.bs.v]
abbrev mapV (σ : SysP) (q : MapQ) : Value := .agg #[I (2 ^ σ.n : Nat), I (2 ^ σ.k : Nat), q.hs.v, q.es.v, q.ns.v, q.fs.v, q.bs.v]
def MapS (h : Hp) (q : MapQ) (σ : SysP) : Prop := BoolT h q.hs (2 ^ (σ.n + σ.k)) σ.hold ∧ BoolT h q.es (2 ^ (σ.n + σ.k)) σ.ends ∧ IntT h q.ns (2 ^ (σ.n + σ.k)) σ.next ∧
 (∃ fm, fm + σ.fixed = 2 ^ σ.n - 1 ∧ IntS h q.fs (VL (freeL fm))) ∧ BoolT h q.bs (2 ^ σ.n) σ.begins
theorem MapS.mono {h h' : Hp} {q : MapQ} {σ : SysP} (l : h.le h') (e : MapS h q σ) : MapS h' q σ := by
 obtain ⟨a, b, c, ⟨fm, d1, d2⟩, f⟩ := e
 exact ⟨a.mono l, b.mono l, c.mono l, ⟨fm, d1, d2.mono l⟩, f.mono l⟩
theorem range_snoc {α : Type} (f : Nat → α) (c : Nat) : (List.range (c + 1)).map f = (List.range c).map f ++ [f c] := by rw [List.range_succ, List.map_append]; rfl
theorem free_fixed {m : ModelP} (g : Good m) : freeM m + (sysP m).fixed = 2 ^ (sysP m).n - 1 := by
 have := mask_not m.nodes (fun p => (boundP m.nexts p).isSome) (stP m)
 have e := sumW_st g
 show freeM m + fixP m m.nexts = 2 ^ bitsP m.nodes 36 - 1
 rw [← e, ← this, Nat.add_comm]; rfl
theorem l12Of_spec {h : Hp} {M : MSl} {m : ModelP} {R : Value → Hp → Prop} (hs : ModelS h M m) (hm : Small m) (hc0 : modelCodeP m = 0)
  (k : ∀ q h', h.le h' → MapS h' q (sysP m) → R (mapV (sysP m) q) h') : c_spec_l12Of #[modelV M] h R := by
 apply R_spec_l12Of
 unfold F_spec_l12Of
 have g := good_of hc0
 have hn8 := g.n8
 have hk5' := g.k5
 have ok := sys_ok g
 have hp8 := pow_n8 ok
 have hk5 := pow_k5 ok
 have hp13 := pow_nk13 ok
 have hnk := SysP.pow_nk (sysP m)
 have K0 := Kn.nil h
 (with_reducible apply Kn.al); (assumption); (intro b7 h1 K1 l1 hb7)
 (with_reducible apply Kn.al); (assumption); (intro b9 h2 K2 l2 hb9)
 clear K0 K1 l1 hb7
 repeat' (refine kr_ ?_)
 refine l2All_spec (hs.mono K2.le) hm ⟨_, rfl, ?_⟩
 repeat' (refine kr_ ?_)
 refine l2All_spec (hs.mono K2.le) hm ⟨_, rfl, ?_⟩
 rw [Wu_nat (by omega), Wu_nat (by omega), if_neg (by omega), if_neg (by omega), shlW_one (by omega), shlW_one (by omega), show bitsP m.nodes 36 = (sysP m).n from rfl, show bitsP m.nodes 35 = (sysP m).k from rfl]
 repeat' (refine kr_ ?_)
 refine l12Free_spec (hs.mono K2.le) hm g fun F h3 l3 hF => ⟨_, rfl, ?_⟩
 have hF' : IntS (h3.wo (([(b9, .inl ⟨[I 0, I 0, .slice none 0 0, .slice none 0 0, .slice none 0 0, .slice none 0 0, .slice none 0 0], 7, false⟩), (b7, .inl ⟨modelC M, 5, false⟩)] : List (Nat × Blk)).map Prod.fst)) F (VL (freeL (freeM m))) :=
  SlC.mono (le_wo (sub_le _ _) fun b hb => by
   cases hx : h2 b with
   | none => exact absurd hx (K2.has b hb)
   | some x => exact sub_none hx) hF
 have K3 := (K2.mono l3).base
 have lg := (K2.mono l3).leBase
 clear hF K2
 generalize h3.wo (([(b9, .inl ⟨[I 0, I 0, .slice none 0 0, .slice none 0 0, .slice none 0 0, .slice none 0 0, .slice none 0 0], 7, false⟩), (b7, .inl ⟨modelC M, 5, false⟩)] : List (Nat × Blk)).map Prod.fst) = g3 at *
 have hs3 := hs.mono lg
 (with_reducible apply Kn.al); (assumption); (intro b38 h4 K4 l4 hb38)
 (((with_reducible apply Kn.wr); (assumption); ((focus ((repeat first | exact .head | apply Upd.tail); done)))))
 ·exact Nat.le_refl _
 intro h5 K5 kp5
 simp only [lset, List.set_cons_zero, List.set_cons_succ, Nat.zero_add, Nat.reduceAdd] at K5
 clear kp5 K4 l4 hb38
 refine loop_up (2 ^ ((sysP m).n + (sysP m).k)) (fun c vs h' => ∃ (A B C : Sl) (XA XB XC : List (Nat × Blk)), vs = [.pointer (some ⟨b7, 0, none⟩), .pointer (some ⟨b9, 0, none⟩), .pointer (some ⟨b38, 0, none⟩), I c] ∧
  Kn g3 h' ((b38, .inl ⟨[I (2 ^ (sysP m).n : Nat), I (2 ^ (sysP m).k : Nat), A.v, B.v, C.v, F.v, (⟨none, 0, 0⟩ : Sl).v], 7, false⟩) :: (b9, .inl ⟨[I 0, I 0, .slice none 0 0, .slice none 0 0, .slice none 0 0, .slice none 0 0, .slice none 0 0], 7, false⟩) :: (b7, .inl ⟨modelC M, 5, false⟩) :: (XA ++ (XB ++ (XC ++ [])))) ∧ GrowX XA A 1 ((List.range c).map fun i => .bool ((sysP m).hold i)) ∧ GrowX XB B 1 ((List.range c).map fun i => .bool ((sysP m).ends i)) ∧
   GrowX XC C 1 ((List.range c).map fun i => I ((sysP m).next i : Nat))) ⟨⟨none, 0, 0⟩, ⟨none, 0, 0⟩, ⟨none, 0, 0⟩, [], [], [], rfl, K5, growX_nil _, growX_nil _, growX_nil _⟩ ?_
 clear K5 h5
 rintro c _ h5 nxt hc ⟨A, B, C, XA, XB, XC, rfl, K, oA, oB, oC⟩ hnx
 refine ⟨b7, 0, b9, 0, b38, 0, _, rfl, ?_⟩
 repeat' (refine kr_ ?_)
 have hxy : ((2 ^ (sysP m).n : Nat) : Int) * ((2 ^ (sysP m).k : Nat) : Int) = ((2 ^ ((sysP m).n + (sysP m).k) : Nat) : Int) := by rw [hnk, ← Int.natCast_mul, Nat.mul_comm]
 rw [hxy, W_nat (by omega)]
 have hAn : A.n = c := by have := oA.1; simp at this; omega
 have hBn : B.n = c := by have := oB.1; simp at this; omega
 have hCn : C.n = c := by have := oC.1; simp at this; omega
 by_cases hlt : c < 2 ^ ((sysP m).n + (sysP m).k)
 ·refine bs_t (by rw [decide_eq_true_eq]; exact_mod_cast hlt) ?_
  repeat' (refine kr_ ?_)
  refine l8Values_spec (hs3.mono K.le) hm g hlt fun t h6 l6 htn hpv hnew => ⟨t, rfl, ?_⟩
  have n38 : ∀ o, t.a ≠ some (Addr.mk b38 o none) := fun o ho => by have := hnew _ _ ho; rw [K.at (.head _)] at this; cases this
  replace K := K.mono l6
  have a : AllV m (codeV m (c % 2 ^ bitsP m.nodes 36) (c / 2 ^ bitsP m.nodes 36)) := codeV_all g _ _
  have hv1 : (sysP m).hold c = holdsV m (codeV m (c % 2 ^ bitsP m.nodes 36) (c / 2 ^ bitsP m.nodes 36)) := rfl
  have hv2 : (sysP m).bad c = (badV m (codeV m (c % 2 ^ bitsP m.nodes 36) (c / 2 ^ bitsP m.nodes 36))).isSome := rfl
  have hv3 : (sysP m).next c = nextCode m (c % 2 ^ bitsP m.nodes 36) (c / 2 ^ bitsP m.nodes 36) := rfl
  repeat' (refine kr_ ?_)
  refine l4Holds_spec (hs3.mono K.le) g hpv a ⟨_, rfl, ?_⟩
  repeat' (refine kr_ ?_)
  rw [← hv1]
  refine alloc_of fun b80 h7 hb80 l7 f80 => ?_
  replace K := K.mono l7
  replace hpv := hpv.mono l7
  refine Kn.growIn (A := [_, _, _]) K oA (by omega) (by omega) (by omega) ⟨b80, 0, rfl, cellsAre_of f80⟩ rfl rfl fun A' XA' h8 hn' oA' K8 l8 => ?_
  replace hpv := (hpv.offG oA fun e he => K.mem e (by simp [he])).mono l8
  simp only [List.cons_append, List.nil_append] at K8
  (((with_reducible apply Kn.wr); (assumption); ((focus ((repeat first | exact .head | apply Upd.tail); done)))))
  ·simp
  intro h9 K9 kp9
  have f8 := K8.at (.head _)
  have f9 := K9.at (.head _)
  simp only [lset_one, List.set_cons_zero, List.set_cons_succ, Nat.zero_add, Nat.reduceAdd] at K9
  rw [lset_one] at f9
  replace hpv := hpv.keepB n38 kp9 fun o i hi => by
   rw [cell_of f8] at hi
   rw [cell_of f9, List.getElem?_set]
   by_cases e : 0 + 2 = o
   ·subst e; simp at hi
   ·rw [if_neg e]; exact hi
  clear f8 f9
  refine joinP_of (fun J => ∀ (B' : Sl) (XB' : List (Nat × Blk)) (h' : Hp), Kn g3 h' ((b38, .inl ⟨[I (2 ^ (sysP m).n : Nat), I (2 ^ (sysP m).k : Nat), A'.v, B'.v, C.v, F.v, (⟨none, 0, 0⟩ : Sl).v], 7, false⟩) :: (b9, .inl ⟨[I 0, I 0, .slice none 0 0, .slice none 0 0, .slice none 0 0, .slice none 0 0, .slice none 0 0], 7, false⟩) :: (b7, .inl ⟨modelC M, 5, false⟩) :: (XA' ++ (XB' ++ (XC ++ [])))) → GrowX XB' B' 1 ((List.range (c + 1)).map fun i => .bool ((sysP m).ends i)) → J h') (fun B' XB' h10 K10 oB' => ?_) (fun J hJ => ?_)
  ·clear K9 K8 K hpv
   have hcm : c % 2 ^ (sysP m).n ≤ c := Nat.mod_le _ _
   have hcd : c / 2 ^ (sysP m).n ≤ c := Nat.div_le_self _ _
   have hpos := Nat.two_pow_pos (sysP m).n
   repeat' (refine kr_ ?_)
   rw [if_neg (by omega)]
   repeat' (refine kr_ ?_)
   rw [if_neg (by omega), tmod_nat, show Int.tdiv (c : Int) ((2 ^ (sysP m).n : Nat) : Int) = ((c / 2 ^ (sysP m).n : Nat) : Int) from rfl, W_nat (by omega)]
   refine l6Next_spec (hs3.mono K10.le) hm g (by omega) (by omega) ⟨_, rfl, ?_⟩
   repeat' (refine kr_ ?_)
   refine alloc_of fun b131 h11 hb131 l11 f131 => ?_
   have K11 := K10.mono l11
   repeat' (refine kr_ ?_)
   refine Kn.growIn3 (A := [_, _, _]) K11 oC (by omega) (by omega) (by omega) ⟨b131, 0, rfl, cellsAre_of f131⟩ rfl rfl fun C' XC' h12 hn2 oC' K12 _ => ?_
   simp only [List.cons_append, List.nil_append] at K12
   (((with_reducible apply Kn.wr); (assumption); ((focus ((repeat first | exact .head | apply Upd.tail); done)))))
   ·simp
   intro h13 K13 _
   simp only [lset_one, List.set_cons_zero, List.set_cons_succ, Nat.zero_add, Nat.reduceAdd] at K13
   rw [W_succ (by omega)]
   exact hnx hlt _ _ ⟨A', B', C', XA', XB', XC', rfl, K13, by rw [range_snoc]; exact oA', oB', by rw [range_snoc]; exact oC'⟩
  ·clear K8 K
   refine bsplit_of (fun e1 => ?_) (fun e1 => ?_)
   ·repeat' (refine kr_ ?_)
    refine l4Bad_spec (hs3.mono K9.le) g hpv a ⟨_, rfl, ?_⟩
    repeat' (refine kr_ ?_)
    rw [bad_isSome, ← hv2]
    refine alloc_of fun b99 h11 hb99 l11 f99 => ?_
    have K11 := K9.mono l11
    repeat' (refine kr_ ?_)
    refine Kn.growIn2 (A := [_, _, _]) K11 oB (by omega) (by omega) (by omega) ⟨b99, 0, rfl, cellsAre_of f99⟩ rfl rfl fun B' XB' h12 hn2 oB' K12 _ => ?_
    simp only [List.cons_append, List.nil_append] at K12
    (((with_reducible apply Kn.wr); (assumption); ((focus ((repeat first | exact .head | apply Upd.tail); done)))))
    ·simp
    intro h13 K13 _
    simp only [lset_one, List.set_cons_zero, List.set_cons_succ, Nat.zero_add, Nat.reduceAdd] at K13
    exact hJ B' XB' h13 K13 (by rw [range_snoc]; unfold SysP.ends; rw [e1]; exact oB')
   ·repeat' (refine kr_ ?_)
    refine alloc_of fun b99 h11 hb99 l11 f99 => ?_
    have K11 := K9.mono l11
    repeat' (refine kr_ ?_)
    refine Kn.growIn2 (A := [_, _, _]) K11 oB (by omega) (by omega) (by omega) ⟨b99, 0, rfl, cellsAre_of f99⟩ rfl rfl fun B' XB' h12 hn2 oB' K12 _ => ?_
    simp only [List.cons_append, List.nil_append] at K12
    (((with_reducible apply Kn.wr); (assumption); ((focus ((repeat first | exact .head | apply Upd.tail); done)))))
    ·simp
    intro h13 K13 _
    simp only [lset_one, List.set_cons_zero, List.set_cons_succ, Nat.zero_add, Nat.reduceAdd] at K13
    exact hJ B' XB' h13 K13 (by rw [range_snoc]; unfold SysP.ends; rw [e1]; exact oB')
 ·refine bs_f (by rw [decide_eq_false_iff_not]; omega) ?_
  clear hnx
  have hce : c = 2 ^ ((sysP m).n + (sysP m).k) := by omega
  refine loop_up (2 ^ (sysP m).n) (fun d vs h' => ∃ (D : Sl) (XD : List (Nat × Blk)), vs = [.pointer (some ⟨b7, 0, none⟩), .pointer (some ⟨b9, 0, none⟩), .pointer (some ⟨b38, 0, none⟩), I d] ∧
   Kn g3 h' ((b38, .inl ⟨[I (2 ^ (sysP m).n : Nat), I (2 ^ (sysP m).k : Nat), A.v, B.v, C.v, F.v, D.v], 7, false⟩) :: (b9, .inl ⟨[I 0, I 0, .slice none 0 0, .slice none 0 0, .slice none 0 0, .slice none 0 0, .slice none 0 0], 7, false⟩) :: (b7, .inl ⟨modelC M, 5, false⟩) :: (XD ++ (XA ++ (XB ++ (XC ++ []))))) ∧ GrowX XD D 1 ((List.range d).map fun i => .bool ((sysP m).begins i))) ⟨⟨none, 0, 0⟩, [], rfl, K, growX_nil _⟩ ?_
  clear K h5 hlt hc
  rintro d _ h5 nxt2 hd ⟨D, XD, rfl, K, oD⟩ hnx2
  have hDn : D.n = d := by have := oD.1; simp at this; omega
  refine ⟨b7, 0, b9, 0, b38, 0, _, rfl, ?_⟩
  repeat' (refine kr_ ?_)
  by_cases hld : d < 2 ^ (sysP m).n
  ·refine bs_t (by rw [decide_eq_true_eq]; exact_mod_cast hld) ?_
   repeat' (refine kr_ ?_)
   refine l2Places_spec (hs3.mono K.le) hm fun p h6 l6 ip => ⟨p, rfl, ?_⟩
   have K6 := K.mono l6
   repeat' (refine kr_ ?_)
   refine l5Unpack_spec (hs3.mono K6.le) hm g.ok ip (places_w g 36) (pl_le g 36) (by omega) (by have := sumW_st g; show sumW m.nodes (stP m) ≤ 60; omega) fun u h7 l7 iu => ⟨u, rfl, ?_⟩
   have K7 := K6.mono l7
   repeat' (refine kr_ ?_)
   refine spec_InitFits_spec (hs3.mono K7.le) hm hc0 iu (by rw [unpL_eq]; exact fitR_unp _ _ _) ⟨_, rfl, ?_⟩
   have hb : matchB (stP m) (initF m) (unpL m.nodes (placesP m.nodes 36) d) (stP m).length = (sysP m).begins d := by
    rw [Bool.eq_iff_iff, matchB_iff, begins_iff g]
   rw [hb]
   repeat' (refine kr_ ?_)
   refine alloc_of fun b184 h8 hb184 l8 f184 => ?_
   have K8 := K7.mono l8
   repeat' (refine kr_ ?_)
   refine Kn.growIn (A := [_, _, _]) K8 oD (by omega) (by omega) (by omega) ⟨b184, 0, rfl, cellsAre_of f184⟩ rfl rfl fun D' XD' h9 hn2 oD' K9 _ => ?_
   simp only [List.cons_append, List.nil_append] at K9
   (((with_reducible apply Kn.wr); (assumption); ((focus ((repeat first | exact .head | apply Upd.tail); done)))))
   ·simp
   intro h10 K10 _
   simp only [lset_one, List.set_cons_zero, List.set_cons_succ, Nat.zero_add, Nat.reduceAdd] at K10
   rw [W_succ (by omega)]
   exact hnx2 hld _ _ ⟨D', XD', rfl, K10, by rw [range_snoc]; exact oD'⟩
  ·have hde : d = 2 ^ (sysP m).n := by omega
   refine bs_f (by rw [decide_eq_false_iff_not]; omega) ?_
   clear hnx2
   repeat' (refine kr_ ?_)
   (((with_reducible apply Kn.wr); (assumption); ((focus ((repeat first | exact .head | apply Upd.tail); done)))))
   ·simp
   intro h6 K6 _
   simp only [lset, List.set_cons_zero, List.set_cons_succ, Nat.zero_add, Nat.reduceAdd] at K6
   repeat' (refine kr_ ?_)
   subst hce hde
   refine k ⟨A, B, C, F, D⟩ h6 (Hp.le_trans lg K6.le) ⟨?_, ?_, ?_, ⟨freeM m, free_fixed g, hF'.mono K6.le⟩, ?_⟩
   ·have := (oA.buf fun e he => K6.mem e (by simp [he])).slc_of (by omega)
    unfold BoolT BoolS; rw [List.map_map]; exact this
   ·have := (oB.buf fun e he => K6.mem e (by simp [he])).slc_of (by omega)
    unfold BoolT BoolS; rw [List.map_map]; exact this
   ·have := (oC.buf fun e he => K6.mem e (by simp [he])).slc_of (by omega)
    unfold IntT IntS VL; rw [List.map_map, List.map_map]; exact this
   ·have := (oD.buf fun e he => K6.mem e (by simp [he])).slc_of (by omega)
    unfold BoolT BoolS; rw [List.map_map]; exact this
theorem met_codes {σ : SysP} (S : Nat → Bool) : anyB (2 ^ (σ.n + σ.k)) (fun c => S (c % 2 ^ σ.n) && σ.ends c) = σ.met S := by
 rw [Bool.eq_iff_iff, anyB_iff]
 unfold SysP.met
 rw [anyB_iff]
 constructor
 ·rintro ⟨c, hc, e⟩
  rw [Bool.and_eq_true] at e
  obtain ⟨h1, h2, h3⟩ := SysP.at_of hc
  refine ⟨c % 2 ^ σ.n, h1, ?_⟩
  rw [e.1, Bool.true_and, SysP.endsAt_iff]
  have := e.2
  unfold SysP.ends at this
  rw [Bool.and_eq_true] at this
  exact ⟨c / 2 ^ σ.n, h2, by rw [h3]; exact this⟩
 ·rintro ⟨s, hs, e⟩
  rw [Bool.and_eq_true, SysP.endsAt_iff] at e
  obtain ⟨e1, x, hx, e2, e3⟩ := e
  refine ⟨σ.at_ s x, SysP.at_lt hs hx, ?_⟩
  unfold SysP.ends
  rw [SysP.at_mod hs, e1, e2, e3]; rfl
theorem l12Bad_spec {h : Hp} {q : MapQ} {σ : SysP} {s : Sl} {S : Nat → Bool} {R : Value → Hp → Prop} (hq : MapS h q σ) (ok : σ.Ok) (hS : BoolT h s (2 ^ σ.n) S) (k : R (.bool (σ.met S)) h) :
  c_spec_l12Bad #[mapV σ q, s.v] h R := by
 refine ACalls.drop (R_spec_l12Bad ?_)
 unfold F_spec_l12Bad
 have hn := pow_n8 ok
 have hp := pow_nk13 ok
 have hpos := Nat.two_pow_pos σ.n
 refine alloc_of fun b10 h1 hb10 l1 f10 => ?_
 have he := hq.2.1.mono l1
 have hS1 := hS.mono l1
 have hel := he.len
 refine loop_up (2 ^ (σ.n + σ.k)) (fun i vs h' => vs = [s.v, .pointer (some ⟨b10, 0, none⟩), I i] ∧ h1 = h' ∧ ∀ j, j < i → (S (j % 2 ^ σ.n) && σ.ends j) = false) ⟨rfl, rfl, fun j hj => by omega⟩ ?_
 rintro i _ _ next hi ⟨rfl, rfl, hj⟩ hnx
 refine ⟨s, b10, 0, _, rfl, ?_⟩
 (refine rdx_ ?_)
 by_cases hlt : i < 2 ^ (σ.n + σ.k)
 ·refine bs_t (by rw [decide_eq_true_eq]; omega) ?_
  have go : (S (i % 2 ^ σ.n) && σ.ends i) = false → next [s.v, .pointer (some ⟨b10, 0, none⟩), I (W ((i : Int) + 1))] h1 := fun e => by
   rw [W_succ (by omega)]
   refine hnx hlt _ _ ⟨rfl, rfl, fun j hji => ?_⟩
   by_cases eq : j = i
   ·rw [eq]; exact e
   ·exact hj j (by omega)
  (refine rdx_ ?_)
  rw [if_neg (by omega), tmod_nat]
  obtain ⟨b, o, ha, h2, h3⟩ := hS1.get (i := i % 2 ^ σ.n) (Nat.mod_lt _ hpos)
  refine ⟨b, o, ha, by omega, h2, _, h3, ?_⟩
  refine bsplit_of (fun e => ?_) (fun e => ?_)
  ·(refine rdx_ ?_)
   obtain ⟨b, o, ha, h2, h3⟩ := he.get hlt
   refine ⟨b, o, ha, by omega, h2, _, h3, ?_⟩
   refine bsplit_of (fun e2 => ?_) (fun e2 => ?_)
   ·refine ⟨h, l1, ?_⟩
    rw [← met_codes, anyB_iff.2 ⟨i, hlt, by rw [e, e2]; rfl⟩] at k; exact k
   ·exact go (by rw [e2, Bool.and_false])
  ·exact go (by rw [e]; rfl)
 ·refine bs_f (by rw [decide_eq_false_iff_not]; omega) ⟨h, l1, ?_⟩
  rw [← met_codes, anyB_no.2 fun j hjn => hj j (by omega)] at k; exact k
theorem freeL_mem {k f : Nat} : f ∈ freeL k ↔ f &&& k = f := by
 unfold freeL
 rw [List.mem_filter, List.mem_range, decide_eq_true_eq]
 refine ⟨fun h => h.2, fun h => ⟨?_, h⟩⟩
 have : f &&& k ≤ k := Nat.and_le_right
 omega
theorem free_goes {σ : SysP} {fm c t : Nat} (ok : σ.Ok) (hfm : fm + σ.fixed = 2 ^ σ.n - 1) (hc : c < 2 ^ (σ.n + σ.k)) (ht : t < 2 ^ σ.n) : σ.goes c t = true ↔ ∃ f, f ∈ freeL fm ∧ σ.next c + f = t := by
 unfold SysP.goes
 rw [decide_eq_true_eq, step_iff (y := fm) (by omega) ok.fixed ht (ok.next c hc) (ok.held c hc)]
 constructor
 ·rintro ⟨f, h1, h2⟩; exact ⟨f, freeL_mem.2 h1, h2⟩
 ·rintro ⟨f, h1, h2⟩; exact ⟨f, freeL_mem.1 h1, h2⟩
theorem free_lt {σ : SysP} {fm c f : Nat} (ok : σ.Ok) (hfm : fm + σ.fixed = 2 ^ σ.n - 1) (hc : c < 2 ^ (σ.n + σ.k)) (hf : f ∈ freeL fm) : σ.next c + f < 2 ^ σ.n := by
 have h1 := freeL_mem.1 hf
 have h2 : f &&& fm ≤ fm := Nat.and_le_right
 have h3 := ok.held c hc
 have h4 : σ.next c &&& σ.fixed ≤ σ.fixed := Nat.and_le_right
 have := Nat.two_pow_pos σ.n
 omega
theorem leading_spec {h : Hp} {b : Nat} {s2 : Sl} {σ : SysP} {S : Nat → Bool} {R : Value → Hp → Prop} (hs : SysS h b σ) (ok : σ.Ok) (hS : BoolT h s2 (2 ^ σ.n) S)
  (k : ∀ w h', h.le h' → Asks h' i_impl_system_leading_d1 #[] w (2 ^ (σ.n + σ.k)) (σ.leads S) → R (.func (.func i_impl_system_leading_d1) #[] w) h') : c_impl_system_leading #[.pointer (some ⟨b, 0, none⟩), s2.v] h R := by
 apply R_impl_system_leading
 unfold F_impl_system_leading
 have hn := pow_n8 ok
 have hl := hS.len
 have hfx := ok.fixed
 obtain ⟨M, st, hold, bad, next, fx, _, _, hnt⟩ := id hs
 have K0 := Kn.nil h
 (with_reducible apply Kn.al); (assumption); (intro b4 h1 K1 l1 hb4)
 rw [hl]
 refine ⟨Int.natCast_nonneg _, Int.le_refl _, by omega, by omega, ?_⟩
 (with_reducible apply Kn.al); (assumption); (intro b7 h2 K2 l2 hb7)
 rw [Int.toNat_natCast, Nat.mul_one, zeroRow_one, tb_zero] at K2
 rw [Int.toNat_natCast]
 (with_reducible apply Kn.al); (assumption); (intro b9 h3 K3 l3 hb9)
 (((with_reducible apply Kn.wr); (assumption); ((focus ((repeat first | exact .head | apply Upd.tail); done)))))
 ·exact Nat.le_refl _
 intro h4 K4 _
 refine loop_up (2 ^ σ.n) (fun i vs h' => vs = [.pointer (some ⟨b4, 0, none⟩), .pointer (some ⟨b9, 0, none⟩), s2.v, I (2 ^ σ.n : Nat), I i] ∧
  ∃ T, Kn h h' [(b9, .inl ⟨[(arr b7 (2 ^ σ.n)).v], 1, false⟩), (b7, .inl ⟨tb (2 ^ σ.n) T, 2 ^ σ.n, false⟩), (b4, .inl ⟨[.pointer (some ⟨b, 0, none⟩)], 1, false⟩)] ∧ ∀ x, T x = true ↔ ∃ t, t < i ∧ S t = true ∧ t &&& σ.fixed = x)
  ⟨rfl, _, K4, fun x => ⟨fun e => by simp at e, fun ⟨t, e, _⟩ => by omega⟩⟩ ?_
 clear K4 K3 K2 K1 K0 l1 l2 l3 hb4 hb7 hb9
 rintro i _ h5 nxt hi ⟨rfl, T, K, hT⟩ hnx
 refine ⟨b4, 0, b9, 0, s2, _, _, rfl, ?_⟩
 by_cases hlt : i < 2 ^ σ.n
 ·refine bs_t (by rw [decide_eq_true_eq]; exact_mod_cast hlt) ?_
  rw [joinP_eq]
  obtain ⟨bS, oS, ha, e1, e2⟩ := (hS.mono K.le).get hlt
  refine ⟨bS, oS, ha, by omega, e1, _, e2, ?_⟩
  have hle : i &&& σ.fixed ≤ i := Nat.and_le_left
  have fin : ∀ v h6, v = (T (i &&& σ.fixed) || S i) → Kn h h6 [(b9, .inl ⟨[(arr b7 (2 ^ σ.n)).v], 1, false⟩), (b7, .inl ⟨(tb (2 ^ σ.n) T).set (i &&& σ.fixed) (.bool v), 2 ^ σ.n, false⟩), (b4, .inl ⟨[.pointer (some ⟨b, 0, none⟩)], 1, false⟩)] →
    nxt [.pointer (some ⟨b4, 0, none⟩), .pointer (some ⟨b9, 0, none⟩), s2.v, I (2 ^ σ.n : Nat), I (W ((i : Int) + 1))] h6 := by
   intro v h6 hv K6
   rw [W_succ (by omega)]
   rw [tb_set] at K6
   refine hnx hlt _ _ ⟨rfl, _, K6, fun x => ?_⟩
   by_cases e : x = i &&& σ.fixed
   ·rw [if_pos e, hv, Bool.or_eq_true, hT, e]
    constructor
    ·rintro (⟨t, q1, q2, q3⟩ | q)
     ·exact ⟨t, by omega, q2, q3⟩
     ·exact ⟨i, by omega, q, rfl⟩
    ·rintro ⟨t, q1, q2, q3⟩
     by_cases e2 : t = i
     ·subst e2; exact .inr q2
     ·exact .inl ⟨t, by omega, q2, q3⟩
   ·rw [if_neg e, hT]
    constructor
    ·rintro ⟨t, q1, q⟩; exact ⟨t, by omega, q⟩
    ·rintro ⟨t, q1, q2, q3⟩
     by_cases e2 : t = i
     ·subst e2; exact absurd q3.symm e
     ·exact ⟨t, by omega, q2, q3⟩
  repeat' (refine kr_ ?_)
  rw [andW_nat (by omega) (by omega)]
  refine ⟨by omega, by dsimp only; omega, ?_⟩
  refine Kn.rd K (.tail _ (.head _)) (x := T (i &&& σ.fixed)) (by rw [Nat.zero_add, Nat.mul_one, Int.toNat_natCast]; exact tb_get (by omega)) ?_
  refine bsplit_of (fun e => ?_) (fun e => ?_)
  ·refine ⟨b7, 0, rfl, by omega, by dsimp only; omega, ?_⟩
   (((with_reducible apply Kn.wr); (assumption); ((focus ((repeat first | exact .head | apply Upd.tail); done)))))
   ·rw [tb_len]; omega
   intro h6 K6 _
   rw [lset_one, Nat.zero_add, Int.toNat_natCast, Nat.mul_one] at K6
   exact fin _ h6 (by rw [e]; rfl) K6
  ·refine ⟨b7, 0, rfl, by omega, by dsimp only; omega, ?_⟩
   (((with_reducible apply Kn.wr); (assumption); ((focus ((repeat first | exact .head | apply Upd.tail); done)))))
   ·rw [tb_len]; omega
   intro h6 K6 _
   rw [lset_one, Nat.zero_add, Int.toNat_natCast, Nat.mul_one] at K6
   exact fin _ h6 (by rw [e]; rfl) K6
 refine bs_f (by rw [decide_eq_false_iff_not]; omega) ?_
 refine k _ h5 K.le fun c hc h' l R' kk => ?_
 apply R_impl_system_leading_d1
 unfold F_impl_system_leading_d1
 have K' := K.mono l
 have hcn := ok.next c hc
 repeat' (refine kr_ ?_)
 obtain ⟨bx, ox, hax, e1, e2⟩ := IntT.get (hnt.mono K'.le) hc
 refine ⟨bx, ox, hax, by omega, e1, _, e2, ?_⟩
 refine ⟨b7, 0, rfl, by omega, by dsimp only; omega, ?_⟩
 refine Kn.rd K' (.tail _ (.head _)) (x := T (σ.next c)) (by rw [Nat.zero_add, Nat.mul_one, Int.toNat_natCast]; exact tb_get (by omega)) ?_
 refine b_leaf ?_ kk
 rw [Bool.eq_iff_iff, hT]
 unfold SysP.leads
 rw [anyB_iff]
 constructor
 ·rintro ⟨t, q1, q2, q3⟩
  exact ⟨t, by omega, by unfold SysP.goes; rw [q2, q3]; simp⟩
 ·rintro ⟨t, q1, q2⟩
  unfold SysP.goes at q2
  rw [Bool.and_eq_true, decide_eq_true_eq] at q2
  exact ⟨t, by omega, q2.1, q2.2⟩
theorem KInduct_d1_spec {h : Hp} {b4 b z s c : Nat} {σ : SysP} {R : Value → Hp → Prop} (hs : SysS h b σ) (f : h b4 = some (.inl ⟨[.pointer (some ⟨b, 0, none⟩)], z, false⟩)) (hc : c < 2 ^ (σ.n + σ.k)) (k : R (.bool (σ.ends c)) h) :
  c_impl_KInduct_d1 #[I s, I c, .pointer (some ⟨b4, 0, none⟩)] h R := by
 apply R_impl_KInduct_d1
 unfold F_impl_KInduct_d1
 (refine rdx_ ?_)
 exact ends_spec hs hc ⟨_, rfl, k⟩
theorem KInduct_d2_spec {h : Hp} {b4 b5 b z z' s c : Nat} {fid : FuncId} {u w : Array Value} {σ : SysP} {P : Nat → Bool} {R : Value → Hp → Prop} (hs : SysS h b σ) (f : h b4 = some (.inl ⟨[.pointer (some ⟨b, 0, none⟩)], z, false⟩))
  (f5 : h b5 = some (.inl ⟨[.func (.func fid) u w], z', false⟩)) (hA : Asks h fid u w (2 ^ (σ.n + σ.k)) P) (hc : c < 2 ^ (σ.n + σ.k)) (k : R (.bool (σ.clean c && P c)) h) :
  c_impl_KInduct_d2 #[I s, I c, .pointer (some ⟨b4, 0, none⟩), .pointer (some ⟨b5, 0, none⟩)] h R := by
 apply R_impl_KInduct_d2
 unfold F_impl_KInduct_d2
 obtain ⟨M, st, hold, bad, next, fx, hh, hb, _⟩ := hs
 (refine rdx_ ?_)
 refine ex_ptrA ?_
 (refine rdx_ ?_)
 obtain ⟨b', o', ha, h1, h2⟩ := hh.get hc
 refine ⟨b', o', ha, by omega, h1, _, h2, ?_⟩
 unfold SysP.clean at k
 refine bsplit_of (fun e => ?_) (fun e => ?_)
 ·(refine rdx_ ?_)
  refine ex_ptrA ?_
  (refine rdx_ ?_)
  obtain ⟨b', o', ha, h1, h2⟩ := hb.get hc
  refine ⟨b', o', ha, by omega, h1, _, h2, ?_⟩
  refine bsplit_of (fun e2 => ?_) (fun e2 => ?_)
  ·refine ⟨fid, u, w, by rw [cell_of f5]; rfl, ?_⟩
   refine hA c hc h (Hp.le_refl _) _ ⟨_, rfl, ?_⟩
   rw [e, e2] at k; exact k
  ·rw [e, e2] at k; exact k
 ·rw [e] at k; exact k
def kindI (m : ModelP) (x : Int) : Int := if modelCodeP m = 0 ∧ 1 ≤ x ∧ x ≤ 256 then (sysP m).kind x.toNat else -1
def baseB (σ : SysP) (n : Nat) : Bool := match σ.depth with | some d => decide (d < n) | none => false
theorem impl_KInduct_spec {h : Hp} {M : MSl} {m : ModelP} {x : Int} {R : Value → Hp → Prop} (hs : ModelS h M m) (hm : Small m) (k : R (I (kindI m x)) h) : c_impl_KInduct #[modelV M, I x] h R := by
 refine ACalls.drop (R_impl_KInduct ?_)
 unfold F_impl_KInduct
 have K0 := Kn.nil h
 (with_reducible apply Kn.al); (assumption); (intro b8 h1 K1 l1 hb8)
 repeat' (refine kr_ ?_)
 refine newSystem_spec (hs.mono K1.le) hm (fun h2 l2 hc => ⟨_, _, rfl, ?_⟩) (fun hc g bx h2 l2 hx => ⟨_, _, rfl, ?_⟩)
 ·have K2 := K1.mono l2
  (with_reducible apply Kn.al); (exact K2); (intro b20 h3 K3 l3 hb20)
  (((with_reducible apply Kn.wr); (assumption); ((focus ((repeat first | exact .head | apply Upd.tail); done)))))
  ·exact Nat.le_refl _
  intro h4 K4 _
  rw [joinP_eq]
  refine bs_t rfl (bs_t rfl ⟨h, K4.le, ?_⟩)
  unfold kindI at k
  rw [if_neg fun e => hc e.1] at k; exact k
 have ok := sys_ok g
 have K2 := K1.mono l2
 (with_reducible apply Kn.al); (exact K2); (intro b20 h3 K3 l3 hb20)
 (((with_reducible apply Kn.wr); (assumption); ((focus ((repeat first | exact .head | apply Upd.tail); done)))))
 ·exact Nat.le_refl _
 intro h4 K4 kp4
 have hx4 : SysS h4 bx (sysP m) := hx.mono (le_keep hb20 l3 kp4)
 have f20 := K4.at (.head _)
 have lh := K4.le
 clear K4 kp4 K3 l3 hb20 K2 hx l2 h2 K1 l1 hb8 K0
 unfold kindI at k
 generalize sysP m = σ at *
 have hn := pow_n8 ok
 rw [joinP_eq]
 refine bs_f rfl ?_
 refine in_spec ⟨_, rfl, ?_⟩
 refine bsplit_of (fun e => ?_) (fun e => ?_)
 ·have e' : ¬ (1 ≤ x ∧ x ≤ 256) := by rwa [Bool.not_eq_true', decide_eq_false_iff_not] at e
  refine ⟨h, lh, ?_⟩
  rw [if_neg fun q => e' q.2] at k; exact k
 have hx1 : 1 ≤ x ∧ x ≤ 256 := by simpa using e
 obtain ⟨n, rfl⟩ : ∃ n : Nat, x = n := ⟨x.toNat, by omega⟩
 rw [if_pos ⟨hc, hx1⟩, Int.toNat_natCast] at k
 repeat' (refine rdx_ ?_)
 refine layers_spec hx4 ok fun s h5 l5 hL => ⟨_, rfl, ?_⟩
 have f205 := l5 _ _ f20
 refine ⟨by rw [f205, f20], ?_⟩
 refine depth_spec (hx4.mono l5) ok hL ⟨_, rfl, ?_⟩
 refine joinP_of (fun J => J (baseB σ n)) ?_ (fun J hJ => ?_)
 rotate_left
 ·unfold baseB at hJ
  unfold SysP.depthI
  cases hd : σ.depth with
  | none =>
   rw [hd] at hJ
   exact bs_f (by simp) hJ
  | some d =>
   rw [hd] at hJ
   refine bs_t (by rw [decide_eq_true_eq]; exact Int.natCast_nonneg _) ?_
   refine j_leaf ?_ hJ
   rw [Bool.eq_iff_iff, decide_eq_true_eq, decide_eq_true_eq]; exact Int.ofNat_lt
 have hkind : σ.kind n = if baseB σ n then 1 else if anyB (2 ^ σ.n) (σ.back2 n) then 2 else 0 := rfl
 rw [hkind] at k
 refine bsplit_of (fun e1 => ?_) (fun e1 => ?_)
 ·rw [if_pos e1] at k
  exact ⟨h, Hp.le_trans lh l5, k⟩
 rw [if_neg (by rw [e1]; simp)] at k
 have hx5 := hx4.mono l5
 have lh5 := Hp.le_trans lh l5
 clear hL hx4 l5 f20 lh
 (refine rdx_ ?_)
 refine some_spec hx5 ok (f := fun _ c => σ.ends c) (fun s i hs' hi h' l R kk => KInduct_d1_spec (hx5.mono l) (l _ _ f205) (SysP.at_lt hs' hi) kk) fun t h6 l6 ht => ⟨_, rfl, ?_⟩
 replace ht := ht.mono (sub_le h6 h5)
 refine loop_up n (fun i vs h' => ∃ t : Sl, vs = [.pointer (some ⟨b20, 0, none⟩), t.v, I n, I i] ∧ h5.le h' ∧ BoolT h' t (2 ^ σ.n) (σ.back2 i)) ⟨t, rfl, l6, ht⟩ ?_
 clear ht l6 h6 t
 rintro i _ h6 nxt hi ⟨t, rfl, l6, ht⟩ hnx
 refine ⟨b20, 0, t, _, _, rfl, ?_⟩
 by_cases hlt : i < n
 rotate_left
 ·refine bs_f (by rw [decide_eq_false_iff_not]; omega) ?_
  have hie : i = n := by omega
  subst hie
  refine contains_spec ht (by omega) ⟨_, rfl, ?_⟩
  refine bsplit_of (fun e2 => ?_) (fun e2 => ?_)
  ·rw [if_pos e2] at k; exact ⟨h, Hp.le_trans lh5 l6, k⟩
  ·rw [if_neg (by rw [e2]; simp)] at k; exact ⟨h, Hp.le_trans lh5 l6, k⟩
 refine bs_t (by rw [decide_eq_true_eq]; omega) ?_
 have K := Kn.of l6
 (refine kr_ ?_)
 refine leading_spec (hx5.mono l6) ok ht fun w h7 l7 hA => ⟨_, _, _, rfl, ?_⟩
 have K7 := K.mono l7
 (with_reducible apply Kn.al); (exact K7); (intro b71 h8 K8 l8 hb71)
 (((with_reducible apply Kn.wr); (assumption); ((focus ((repeat first | exact .head | apply Upd.tail); done)))))
 ·exact Nat.le_refl _
 intro h9 K9 kp9
 have l79 : h7.le h9 := le_keep hb71 l8 kp9
 (refine kr_ ?_)
 refine some_spec (hx5.mono K9.le) ok (f := fun _ c => σ.clean c && σ.leads (σ.back2 i) c) (fun s j hs' hj h' l R kk => KInduct_d2_spec ((hx5.mono K9.le).mono l) (l _ _ (K9.le _ _ f205)) (l _ _ (K9.at (.head _)))
  (fun c hc h'' l' R' kk' => hA c hc h'' (Hp.le_trans (Hp.le_trans l79 l) l') R' kk') (SysP.at_lt hs' hj) kk) fun t' h10 l10 ht' => ⟨_, rfl, ?_⟩
 rw [W_succ (by omega)]
 exact hnx hlt _ _ ⟨t', rfl, Hp.le_trans K9.le l10, ht'.mono (sub_le _ _)⟩
theorem l13Clean_spec {h : Hp} {q : MapQ} {σ : SysP} {s : Sl} {S : Nat → Bool} {R : Value → Hp → Prop} (hq : MapS h q σ) (ok : σ.Ok) (hS : BoolT h s (2 ^ σ.n) S)
  (k : ∀ b' T h', Kn h h' [(b', .inl ⟨tb (2 ^ σ.n) T, 2 ^ σ.n, false⟩)] → (∀ j, j < 2 ^ σ.n → T j = σ.fwd σ.clean S j) → R (arr b' (2 ^ σ.n)).v h') : c_spec_l13Clean #[mapV σ q, s.v] h R := by
 apply R_spec_l13Clean
 unfold F_spec_l13Clean
 have hn := pow_n8 ok
 have hp := pow_nk13 ok
 have hpos := Nat.two_pow_pos σ.n
 obtain ⟨hh, hen, hx, ⟨fm, hfm, hfl⟩, _⟩ := id hq
 have hhl := hh.len
 have hxl := IntS.len hx
 rw [VL_len, List.length_map, List.length_range] at hxl
 have hfll := IntS.len hfl
 rw [VL_len] at hfll
 have hfb : (freeL fm).length ≤ 2 ^ σ.n := by
  have h1 : (freeL fm).length ≤ fm + 1 := by unfold freeL; have := List.length_filter_le (fun c => decide (c &&& fm = c)) (List.range (fm + 1)); simpa using this
  omega
 have K0 := Kn.nil h
 (with_reducible apply Kn.al); (assumption); (intro b10 h1 K1 l1 hb10)
 (refine kr_ ?_)
 refine ⟨Int.natCast_nonneg _, Int.le_refl _, by omega, by omega, ?_⟩
 (with_reducible apply Kn.al); (assumption); (intro b14 h2 K2 l2 hb14)
 rw [Int.toNat_natCast, Nat.mul_one, zeroRow_one, tb_zero] at K2
 rw [Int.toNat_natCast]
 refine loop_up (2 ^ (σ.n + σ.k)) (fun c vs h' => vs = [s.v, .pointer (some ⟨b10, 0, none⟩), (arr b14 (2 ^ σ.n)).v, I c] ∧
  ∃ T, Kn h h' [(b14, .inl ⟨tb (2 ^ σ.n) T, 2 ^ σ.n, false⟩), (b10, .inl ⟨mapC σ q, 7, false⟩)] ∧ ∀ x, T x = true ↔ ∃ c', c' < c ∧ S (c' % 2 ^ σ.n) = true ∧ σ.clean c' = true ∧ ∃ f, f ∈ freeL fm ∧ σ.next c' + f = x)
  ⟨rfl, _, K2, fun x => ⟨fun e => by simp at e, fun ⟨c', e, _⟩ => by omega⟩⟩ ?_
 clear K2 K1 K0 l1 l2 hb10 hb14 h1 h2
 rintro c _ h1 nxt hc ⟨rfl, T, K1, hT⟩ hnx
 refine ⟨s, b10, 0, arr b14 _, _, rfl, ?_⟩
 (refine kr_ ?_)
 by_cases hlt : c < 2 ^ (σ.n + σ.k)
 rotate_left
 ·refine bs_f (by rw [decide_eq_false_iff_not]; omega) ?_
  refine k b14 T h1 (K1.sub (fun e he => by rw [List.mem_singleton] at he; subst he; exact .head _) (by simp)) fun j hj => ?_
  rw [Bool.eq_iff_iff, hT, SysP.fwd_iff]
  constructor
  ·rintro ⟨c', q1, q2, q3, q4⟩
   have hc' : c' < 2 ^ (σ.n + σ.k) := by omega
   obtain ⟨a1, a2, a3⟩ := SysP.at_of hc'
   exact ⟨c' % 2 ^ σ.n, c' / 2 ^ σ.n, a1, a2, q2, by rw [a3]; exact q3, by rw [a3]; exact (free_goes ok hfm hc' hj).2 q4⟩
  ·rintro ⟨s', i', q1, q2, q3, q4, q5⟩
   have hc' := SysP.at_lt q1 q2
   exact ⟨σ.at_ s' i', by omega, by rw [SysP.at_mod q1]; exact q3, q4, (free_goes ok hfm hc' hj).1 q5⟩
 refine bs_t (by rw [decide_eq_true_eq]; omega) ?_
 have skip : (S (c % 2 ^ σ.n) && σ.clean c) = false → nxt [s.v, .pointer (some ⟨b10, 0, none⟩), (arr b14 (2 ^ σ.n)).v, I (W ((c : Int) + 1))] h1 := fun e => by
  rw [W_succ (by omega)]
  refine hnx hlt _ _ ⟨rfl, T, K1, fun x => ?_⟩
  rw [hT]
  constructor
  ·rintro ⟨c', q1, q⟩; exact ⟨c', by omega, q⟩
  ·rintro ⟨c', q1, q2, q3, q4⟩
   by_cases e2 : c' = c
   ·rw [e2] at q2 q3; rw [q2, q3] at e; cases e
   ·exact ⟨c', by omega, q2, q3, q4⟩
 rw [joinP_eq]
 (refine kr_ ?_)
 rw [if_neg (by omega), tmod_nat]
 obtain ⟨b, o, ha, e1, e2⟩ := (hS.mono K1.le).get (i := c % 2 ^ σ.n) (Nat.mod_lt _ hpos)
 refine ⟨b, o, ha, by omega, e1, _, e2, ?_⟩
 refine bsplit_of (fun e => ?_) (fun e => ?_)
 ·exact bs_t rfl (skip (by have : S (c % 2 ^ σ.n) = false := by simpa using e
                           rw [this]; rfl))
 have eS : S (c % 2 ^ σ.n) = true := by simpa using e
 (refine kr_ ?_)
 obtain ⟨b, o, ha, e1, e2⟩ := (hh.mono K1.le).get hlt
 refine ⟨b, o, ha, by omega, e1, _, e2, ?_⟩
 refine bsplit_of (fun e => ?_) (fun e => ?_)
 ·exact skip (by have : σ.hold c = false := by simpa using e
                 unfold SysP.clean; rw [this]; simp)
 have eh : σ.hold c = true := by simpa using e
 (refine kr_ ?_)
 obtain ⟨b, o, ha, e1, e2⟩ := (hen.mono K1.le).get hlt
 refine ⟨b, o, ha, by omega, e1, _, e2, ?_⟩
 have hcl : σ.clean c = !σ.ends c := by unfold SysP.clean SysP.ends; rw [eh]; simp
 refine bsplit_of (fun e => ?_) (fun e => ?_)
 ·exact skip (by rw [hcl, e]; simp)
 have eH : σ.clean c = true := by rw [hcl, e]; rfl
 refine loop_up (freeL fm).length (fun j vs h' => vs = [s.v, .pointer (some ⟨b10, 0, none⟩), (arr b14 (2 ^ σ.n)).v, I c, I j] ∧
  ∃ U, Kn h h' [(b14, .inl ⟨tb (2 ^ σ.n) U, 2 ^ σ.n, false⟩), (b10, .inl ⟨mapC σ q, 7, false⟩)] ∧ ∀ x, U x = true ↔ T x = true ∨ ∃ f, f ∈ (freeL fm).take j ∧ σ.next c + f = x)
  ⟨rfl, T, K1, fun x => ⟨fun q => .inl q, fun q => q.resolve_right fun ⟨f, q1, _⟩ => by simp at q1⟩⟩ ?_
 clear skip K1
 rintro j _ h1 nxt2 hj ⟨rfl, U, K1, hU⟩ hnx2
 refine ⟨s, b10, 0, arr b14 _, _, _, rfl, ?_⟩
 (refine kr_ ?_)
 by_cases hlj : j < (freeL fm).length
 rotate_left
 ·refine bs_f (by rw [decide_eq_false_iff_not]; omega) ?_
  rw [W_succ (by omega)]
  refine hnx hlt _ _ ⟨rfl, U, K1, fun x => ?_⟩
  rw [hU, hT, List.take_of_length_le (by omega)]
  constructor
  ·rintro (⟨c', q1, q⟩ | q)
   ·exact ⟨c', by omega, q⟩
   ·exact ⟨c, by omega, eS, eH, q⟩
  ·rintro ⟨c', q1, q2, q3, q4⟩
   by_cases e2 : c' = c
   ·rw [e2] at q4; exact .inr q4
   ·exact .inl ⟨c', by omega, q2, q3, q4⟩
 refine bs_t (by rw [decide_eq_true_eq]; omega) ?_
 (refine kr_ ?_)
 obtain ⟨b, o, ha, e1, e2⟩ := IntT.get (hx.mono K1.le) hlt
 refine ⟨b, o, ha, by omega, e1, _, e2, ?_⟩
 (refine kr_ ?_)
 obtain ⟨f, hf⟩ : ∃ f, (freeL fm)[j]? = some f := ⟨_, List.getElem?_eq_getElem hlj⟩
 obtain ⟨b, o, ha, e3⟩ := (hfl.mono K1.le).get (VL_getE hf)
 refine ⟨b, o, ha, by omega, by omega, _, e3, ?_⟩
 have hlf := free_lt ok hfm hlt (List.mem_of_getElem? hf)
 rw [← Int.natCast_add, W_nat (by omega)]
 refine ⟨b14, 0, rfl, by omega, by dsimp only; omega, ?_⟩
 (((with_reducible apply Kn.wr); (assumption); ((focus ((repeat first | exact .head | apply Upd.tail); done)))))
 ·rw [tb_len]; omega
 intro h2 K2 _
 rw [lset_one, Nat.zero_add, Int.toNat_natCast, Nat.mul_one, tb_set] at K2
 rw [W_succ (by omega)]
 refine hnx2 hlj _ _ ⟨rfl, _, K2, fun x => ?_⟩
 rw [List.take_add_one, hf]
 by_cases ex : x = σ.next c + f
 ·rw [if_pos ex]
  exact ⟨fun _ => .inr ⟨f, by simp, ex.symm⟩, fun _ => rfl⟩
 ·rw [if_neg ex, hU]
  constructor
  ·rintro (q | ⟨f', q1, q2⟩)
   ·exact .inl q
   ·exact .inr ⟨f', List.mem_append_left _ q1, q2⟩
  ·rintro (q | ⟨f', q1, q2⟩)
   ·exact .inl q
   ·rcases List.mem_append.1 q1 with q1 | q1
    ·exact .inr ⟨f', q1, q2⟩
    ·simp at q1; subst q1; exact absurd q2.symm ex
theorem spec_KInduct_spec {h : Hp} {M : MSl} {m : ModelP} {x : Int} {R : Value → Hp → Prop} (hs : ModelS h M m) (hm : Small m) (k : R (I (kindI m x)) h) : c_spec_KInduct #[modelV M, I x] h R := by
 refine ACalls.drop (R_spec_KInduct ?_)
 unfold F_spec_KInduct
 unfold kindI at k
 refine alloc_of fun b8 h1 hb8 l1 f8 => ?_
 rw [joinP_eq]
 repeat' (refine rdx_ ?_)
 refine spec_ModelCode_spec (hs.mono l1) hm ⟨_, rfl, ?_⟩
 refine bsplit_of (fun e => ?_) (fun e => ?_)
 ·refine bs_t rfl ⟨h, l1, ?_⟩
  rw [if_neg fun q => ne_of_bne e q.1] at k; exact k
 have hc := eq_of_bne e
 refine l1In_spec ⟨_, rfl, ?_⟩
 refine bsplit_of (fun e => ?_) (fun e => ?_)
 ·have e' : ¬ (1 ≤ x ∧ x ≤ 256) := by rwa [Bool.not_eq_true', decide_eq_false_iff_not] at e
  refine ⟨h, l1, ?_⟩
  rw [if_neg fun q => e' q.2] at k; exact k
 have hx1 : 1 ≤ x ∧ x ≤ 256 := by simpa using e
 obtain ⟨n, rfl⟩ : ∃ n : Nat, x = n := ⟨x.toNat, by omega⟩
 rw [if_pos ⟨hc, hx1⟩, Int.toNat_natCast] at k
 repeat' (refine rdx_ ?_)
 refine l12Of_spec (hs.mono l1) hm hc fun q h2 l2 hq => ⟨_, _, _, _, _, _, _, rfl, ?_⟩
 have ok := sys_ok (good_of hc)
 have l02 := Hp.le_trans l1 l2
 clear f8
 generalize sysP m = σ at *
 have hn := pow_n8 ok
 have K0 := Kn.nil h2
 (with_reducible apply Kn.al); (exact K0); (intro b41 h3 K3 l3 hb41)
 (((with_reducible apply Kn.wr); (assumption); ((focus ((repeat first | exact .head | apply Upd.tail); done)))))
 ·exact of_decide_eq_true rfl
 intro h4 K4 _
 simp only [lset, List.set_cons_zero, List.set_cons_succ, Nat.zero_add, Nat.reduceAdd] at K4
 clear K3 K0 l3 hb41
 repeat' (refine kr_ ?_)
 refine ⟨Int.natCast_nonneg _, Int.le_refl _, by omega, by omega, ?_⟩
 (with_reducible apply Kn.al); (exact K4); (intro b50 h5 K5 l5 hb50)
 rw [Int.toNat_natCast, Nat.mul_one, zeroRow_one, tb_zero] at K5
 rw [Int.toNat_natCast]
 refine loop_up (2 ^ σ.n) (fun i vs h' => vs = [I n, .pointer (some ⟨b41, 0, none⟩), q.bs.v, (arr b50 (2 ^ σ.n)).v, I i] ∧
  ∃ T, Kn h2 h' [(b50, .inl ⟨tb (2 ^ σ.n) T, 2 ^ σ.n, false⟩), (b41, .inl ⟨mapC σ q, 7, false⟩)] ∧ ∀ j, j < i → T j = true) ⟨rfl, _, K5, fun j hj => by omega⟩ ?_
 clear K5 K4 l5 hb50
 rintro i _ h5 nxt hi ⟨rfl, T, K, hT⟩ hnx
 refine ⟨_, b41, 0, q.bs, arr b50 _, _, rfl, ?_⟩
 (refine kr_ ?_)
 by_cases hlt : i < 2 ^ σ.n
 ·refine bs_t (by rw [decide_eq_true_eq]; exact_mod_cast hlt) ?_
  refine ⟨b50, 0, rfl, by omega, by dsimp only; omega, ?_⟩
  (((with_reducible apply Kn.wr); (assumption); ((focus ((repeat first | exact .head | apply Upd.tail); done)))))
  ·rw [tb_len]; omega
  intro h6 K6 _
  rw [lset_one, Nat.zero_add, Int.toNat_natCast, Nat.mul_one, tb_set] at K6
  rw [W_succ (by omega)]
  refine hnx hlt _ _ ⟨rfl, _, K6, fun j hj => ?_⟩
  by_cases e : j = i
  ·rw [if_pos e]
  ·rw [if_neg e]; exact hT j (by omega)
 refine bs_f (by rw [decide_eq_false_iff_not]; omega) ?_
 have tA : BoolT h5 (arr b50 (2 ^ σ.n)) (2 ^ σ.n) (σ.cleanFrom (fun _ => true) 0) := boolT_of (by omega) (K.at (.head _)) fun j hj => hT j (by omega)
 have f41 := K.at (.tail _ (.head _))
 have hq5 := hq.mono K.le
 have l05 := Hp.le_trans l02 K.le
 clear K hT hnx
 refine loop_up n (fun i vs h' => ∃ (F A : Sl) (base : Bool), vs = [I n, .pointer (some ⟨b41, 0, none⟩), F.v, A.v, .bool base, I i] ∧ h5.le h' ∧ BoolT h' F (2 ^ σ.n) (σ.cleanFrom σ.begins i) ∧ BoolT h' A (2 ^ σ.n) (σ.cleanFrom (fun _ => true) i) ∧
  (base = true ↔ ∃ j, j < i ∧ σ.met (σ.cleanFrom σ.begins j) = true)) ⟨q.bs, _, false, rfl, Hp.le_refl _, hq5.2.2.2.2, tA, by simp⟩ ?_
 clear tA
 rintro i _ h6 nxt hi ⟨F, A, base, rfl, l6, hF, hA, hb⟩ hnx
 have f416 := l6 _ _ f41
 have hq6 := hq5.mono l6
 refine ⟨_, b41, 0, F, A, _, _, rfl, ?_⟩
 by_cases hlt : i < n
 rotate_left
 ·refine bs_f (by rw [decide_eq_false_iff_not]; omega) ?_
  have hie : i = n := by omega
  subst hie
  rw [SysP.kind_eq hb] at k
  refine bsplit_of (fun e => ?_) (fun e => ?_)
  ·rw [if_pos e] at k; exact ⟨h, Hp.le_trans l05 l6, k⟩
  rw [if_neg (by rw [e]; simp)] at k
  repeat' (refine rdx_ ?_)
  refine l12Bad_spec hq6 ok hA ⟨_, rfl, ?_⟩
  refine bsplit_of (fun e => ?_) (fun e => ?_)
  ·rw [if_pos e] at k; exact ⟨h, Hp.le_trans l05 l6, k⟩
  ·rw [if_neg (by rw [e]; simp)] at k; exact ⟨h, Hp.le_trans l05 l6, k⟩
 refine bs_t (by rw [decide_eq_true_eq]; omega) ?_
 refine joinP_of (fun J => J (base || σ.met (σ.cleanFrom σ.begins i)) h6) ?_ (fun J hJ => ?_)
 rotate_left
 ·refine bsplit_of (fun e => ?_) (fun e => ?_)
  ·rw [e] at hJ; exact hJ
  ·repeat' (refine rdx_ ?_)
   refine l12Bad_spec hq6 ok hF ⟨_, rfl, ?_⟩
   rw [e] at hJ; exact hJ
 repeat' (refine rdx_ ?_)
 refine l13Clean_spec hq6 ok hF fun bF TF h7 K7 hTF => ⟨_, rfl, ?_⟩
 have f417 := K7.le _ _ f416
 repeat' (refine rdx_ ?_)
 refine l13Clean_spec (hq6.mono K7.le) ok (hA.mono K7.le) fun bA TA h8 K8 hTA => ⟨_, rfl, ?_⟩
 rw [W_succ (by omega)]
 refine hnx hlt _ _ ⟨_, _, _, rfl, Hp.le_trans l6 (Hp.le_trans K7.le K8.le), boolT_of (by omega) (K8.le _ _ (K7.at (.head _))) hTF, boolT_of (by omega) (K8.at (.head _)) hTA, ?_⟩
 rw [Bool.or_eq_true, hb]
 constructor
 ·rintro (⟨j, q1, q2⟩ | q1)
  ·exact ⟨j, by omega, q2⟩
  ·exact ⟨i, by omega, q1⟩
 ·rintro ⟨j, q1, q2⟩
  by_cases e : j = i
  ·rw [e] at q2; exact .inr q2
  ·exact .inl ⟨j, by omega, q2⟩
set_option maxHeartbeats 1000000 in
theorem FnExactKInduct_spec {h : Hp} {M : MSl} {m : ModelP} {x : Int} {R : Value → Hp → Prop} (hs : ModelS h M m) (hsz : ∀ n ∈ m.nodes, n.name.size ≤ 9223372036854775807)
  (k : R (.bool true) h) : c_laws_FnExactKInduct #[modelV M, I x] h R := by
 refine ACalls.drop (R_laws_FnExactKInduct ?_)
 unfold F_laws_FnExactKInduct
 have K0 := Kn.nil h
 (with_reducible apply Kn.al); (assumption); (intro b7 h1 K1 l1 hb7)
 clear K0 hb7
 repeat' (refine kr_ ?_)
 refine szModel_spec (hs.mono K1.le) hsz fun r hr => ⟨_, rfl, bsplit_of (fun e => ⟨_, K1.le, k⟩) (fun e => ?_)⟩
 have hm : Small m := (hr.resolve_left (of_decide_eq_false e)).2.2
 clear hr e r
 repeat' (refine kr_ ?_)
 refine toModel_spec (hs.mono K1.le) hm fun n1 i1 x1 d1 e1 h2 KA => ⟨_, _, _, _, _, rfl, ?_⟩
 have KA' : Kn h1 h2 (modL m n1 i1 x1 d1 e1 ++ []) := by rw [List.append_nil]; exact KA
 refine spec_KInduct_spec (mod_S KA' hm) hm ⟨_, rfl, ?_⟩
 have K3 := K1.mono KA.le
 clear KA' K1
 repeat' (refine kr_ ?_)
 refine toModel_spec (hs.mono K3.le) hm fun bn bi bx bb bh h6 KB => ⟨_, _, _, _, _, rfl, ?_⟩
 have f7 := K3.at (.head _)
 have l02 := K3.le
 clear K3
 (with_reducible apply Kn.al); (exact KB); (intro b59 h7 K7 l7 hb59)
 (((with_reducible apply Kn.wr); (assumption); ((focus ((repeat first | exact .head | apply Upd.tail); done)))))
 ·exact of_decide_eq_true rfl
 intro h8 K8 _
 clear K7 KB l7 hb59
 repeat' (refine kr_ ?_)
 have nd8 := K8.nd
 rw [List.map_cons, List.nodup_cons] at nd8
 have K8' : Kn h2 h8 (modL m bn bi bx bb bh ++ []) := K8.sub (fun e he => .tail _ (by rwa [List.append_nil] at he)) (by rw [List.append_nil]; exact nd8.2)
 have hS8 := mod_S K8' hm
 clear K8' nd8
 refine impl_KInduct_spec hS8 hm ⟨_, rfl, bs_f (by simp) ?_⟩
 have x7 := nz_some f7
 repeat' (refine kr_ ?_)
 refine toModel_spec (hs.mono (Hp.le_trans l02 K8.le)) hm fun n2 i2 x2 d2 e2 h12 KC => ⟨_, _, _, _, _, rfl, ?_⟩
 have KC' : Kn h8 h12 (modL m n2 i2 x2 d2 e2 ++ []) := by rw [List.append_nil]; exact KC
 have K12 := K8.mono KC.le
 repeat' (refine kr_ ?_)
 refine eqModel_same (hS8.mono KC.le) (mod_S KC' hm) ⟨_, rfl, bs_f rfl ⟨_, Hp.le_trans l02 K12.le, k⟩⟩
theorem BoolT.wo {g h h' : Hp} {L : List (Nat × Blk)} {t : Sl} {n : Nat} {T : Nat → Bool} (K : Kn g h L) (e : BoolT (h'.sub h) t n T) : BoolT (h'.wo (L.map Prod.fst)) t n T :=
 BoolT.mono (le_wo (sub_le _ _) fun b hb => by
  cases hx : h b with
  | none => exact absurd hx (K.has b hb)
  | some x => exact sub_none hx) e
end Go.Lead
