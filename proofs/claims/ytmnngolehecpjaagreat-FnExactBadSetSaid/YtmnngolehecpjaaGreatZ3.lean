/- What functions of the program and of the reference come to, walked one by one, and plain laws about it: part 4. No condition is added to the statement. -/
import Derived.Test.YtmnngolehecpjaaGreatZ2
namespace Go.Lead
open Go
set_option linter.unusedSimpArgs false
set_option linter.unusedVariables false
set_option maxRecDepth 100000
set_option maxHeartbeats 1000000

def l8T (m : ModelP) (bad : Bool) (c : Nat) : Bool := (sysP m).hold c && (!bad || (sysP m).bad c)
def l8SetP (m : ModelP) (bad : Bool) : Bd := if modelCodeP m = 0 then toldP ((sysP m).n + (sysP m).k : Nat) (l8T m bad) else noBd
theorem l8SetP_bad (m : ModelP) : l8SetP m true = badSet m := by
  unfold l8SetP badSet
  have : l8T m true = (sysP m).ends := by funext c; simp [l8T, SysP.ends]
  rw [this]
theorem l8Set_spec {h : Hp} {M : MSl} {m : ModelP} {bad : Bool} {R : Value → Hp → Prop} (hs : ModelS h M m) (hm : Small m)
    (k : ∀ s h', h.le h' → Own (h'.sub h) s 3 (ndCells (l8SetP m bad).ns) → R (setV (l8SetP m bad) s) h') : c_spec_l8Set #[modelV M, .bool bad] h R := by
  apply R_spec_l8Set
  unfold F_spec_l8Set
  have K0 := Kn.nil h
  (with_reducible apply Kn.al); (assumption); (intro b8 h1 K1 l1 hb8)
  (with_reducible apply Kn.al); (assumption); (intro b10 h2 K2 l2 hb10)
  repeat' (refine kr_ ?_)
  refine spec_ModelCode_spec (hs.mono K2.le) hm ⟨_, rfl, ?_⟩
  unfold l8SetP at k
  refine bsplit_of (fun e => ?_) (fun e => ?_)
  · rw [if_neg (ne_of_bne e)] at k
    (((with_reducible apply Kn.wr); (assumption); ((focus ((repeat first | exact .head | apply Upd.tail); done)))))
    · exact Nat.le_refl _
    intro h3 K3 _
    refine ⟨_, by rw [cell_of (K3.at (.head _))]; rfl, ⟨none, 0, 0⟩, by rw [cell_of (K3.at (.head _))]; rfl, _, by rw [cell_of (K3.at (.head _))]; rfl, ?_⟩
    exact k ⟨none, 0, 0⟩ h3 K3.le (own_nil _ _)
  have hc := eq_of_bne e
  rw [if_pos hc] at k
  have g := good_of hc
  have hn8 := g.n8
  have hk5 := g.k5
  have hp13 := pow13 g
  clear K1 K0 l1 l2 hb8 hb10
  repeat' (refine kr_ ?_)
  refine l2All_spec (hs.mono K2.le) hm ⟨_, rfl, rfl, l2All_spec (hs.mono K2.le) hm ⟨_, rfl, ?_⟩⟩
  have e1 : (((bitsP m.nodes 36 : Nat) : Int) + ((bitsP m.nodes 35 : Nat) : Int)) = ((bitsP m.nodes 36 + bitsP m.nodes 35 : Nat) : Int) := by omega
  rw [e1, W_nat (by omega), Wu_nat (by omega), if_neg (by omega), shlW_one (by omega)]
  refine ⟨Int.natCast_nonneg _, Int.le_refl _, by omega, by omega, ?_⟩
  (with_reducible apply Kn.al); (assumption); (intro b47 h3 K3 l3 hb47)
  rw [Int.toNat_natCast, Nat.mul_one, zeroRow_one, boolsTo_zero (l8T m bad)] at K3
  rw [Int.toNat_natCast]
  refine loop_up (2 ^ (bitsP m.nodes 36 + bitsP m.nodes 35)) (fun c vs h' => vs = [.bool bad, .pointer (some ⟨b8, 0, none⟩), .pointer (some ⟨b10, 0, none⟩), I (bitsP m.nodes 36 + bitsP m.nodes 35 : Nat), (arr b47 (2 ^ (bitsP m.nodes 36 + bitsP m.nodes 35))).v, I c] ∧
    Kn h h' [(b47, .inl ⟨boolsTo (l8T m bad) c (2 ^ (bitsP m.nodes 36 + bitsP m.nodes 35)), 2 ^ (bitsP m.nodes 36 + bitsP m.nodes 35), false⟩), (b10, .inl ⟨[I 0, .slice none 0 0, I 0], 3, false⟩), (b8, .inl ⟨modelC M, 5, false⟩)]) ⟨rfl, K3⟩ ?_
  clear K3 K2 l3 hb47 h1 h2 h3
  rintro c _ h1 next hc' ⟨rfl, K1⟩ hnx
  refine ⟨_, _, _, _, _, _, arr b47 _, _, rfl, ?_⟩
  by_cases hlt : c < 2 ^ (bitsP m.nodes 36 + bitsP m.nodes 35)
  rotate_left
  · have hce : c = 2 ^ (bitsP m.nodes 36 + bitsP m.nodes 35) := by omega
    subst hce
    refine bs_f (by simp) ?_
    have hT : BoolT h1 (arr b47 (2 ^ (bitsP m.nodes 36 + bitsP m.nodes 35))) (2 ^ (bitsP m.nodes 36 + bitsP m.nodes 35)) (l8T m bad) := by
      refine ⟨by dsimp only; omega, by simp, .inr ⟨b47, 0, rfl, ?_⟩⟩
      have := cellsAre_of (K1.at (.head _))
      rwa [boolsTo_all] at this
    refine l7Of_spec (by omega) hT fun s h2 l2 o2 => ⟨_, _, _, _, rfl, ?_⟩
    have K2 := K1.mono l2
    (((with_reducible apply Kn.wr); (assumption); ((focus ((repeat first | exact .head | apply Upd.tail); done)))))
    · exact Nat.le_refl _
    intro h3 K3 kp
    refine ⟨_, by rw [cell_of (K3.at (.tail _ (.head _)))]; rfl, _, by rw [cell_of (K3.at (.tail _ (.head _)))]; rfl, _, by rw [cell_of (K3.at (.tail _ (.head _)))]; rfl, ?_⟩
    exact k s h3 K3.le (o2.mono (sub_keep K1.le (K1.at (.tail _ (.head _))) kp))
  refine bs_t (by rw [decide_eq_true_eq]; exact_mod_cast hlt) ?_
  refine joinP_of (fun J => ∀ h', Kn h h' [(b47, .inl ⟨boolsTo (l8T m bad) (c + 1) (2 ^ (bitsP m.nodes 36 + bitsP m.nodes 35)), 2 ^ (bitsP m.nodes 36 + bitsP m.nodes 35), false⟩), (b10, .inl ⟨[I 0, .slice none 0 0, I 0], 3, false⟩), (b8, .inl ⟨modelC M, 5, false⟩)] → J h') ?_ (fun J hJ => ?_)
  · intro h' K'
    rw [W_succ (by omega)]
    exact hnx hlt _ _ ⟨rfl, K'⟩
  repeat' (refine kr_ ?_)
  refine l8Values_spec (hs.mono K1.le) hm g hlt fun t h2 l2 htn hpv => ⟨t, rfl, ?_⟩
  have K2 := K1.mono l2
  have a : AllV m (codeV m (c % 2 ^ bitsP m.nodes 36) (c / 2 ^ bitsP m.nodes 36)) := codeV_all g _ _
  have hv1 : (sysP m).hold c = holdsV m (codeV m (c % 2 ^ bitsP m.nodes 36) (c / 2 ^ bitsP m.nodes 36)) := rfl
  have hv2 : (sysP m).bad c = (badV m (codeV m (c % 2 ^ bitsP m.nodes 36) (c / 2 ^ bitsP m.nodes 36))).isSome := rfl
  have wr : ∀ (x : Bool), x = l8T m bad c → ∃ (b o : Nat), some (Addr.mk b47 0 none) = some (Addr.mk b o none) ∧ (0 : Int) ≤ (c : Int) ∧ (c : Int) < ((2 ^ (bitsP m.nodes 36 + bitsP m.nodes 35) : Nat) : Int) ∧ ∃ (cs : List Value) (z : Nat), h2 b = some (.inl ⟨cs, z, false⟩) ∧ (o + Int.toNat (c : Int) * 1) + 1 ≤ List.length cs ∧
      setH (h2.row b (lset cs (o + Int.toNat (c : Int) * 1) [.bool x]) z) fun h' => J h' := by
    intro x hx
    refine ⟨b47, 0, rfl, by omega, by omega, ?_⟩
    (((with_reducible apply Kn.wr); (assumption); ((focus ((repeat first | exact .head | apply Upd.tail); done)))))
    · rw [boolsTo_len]; omega
    intro h3 K3 _
    rw [hx, lset_one, Nat.zero_add, Int.toNat_natCast, Nat.mul_one, boolsTo_set hlt] at K3
    exact hJ h3 K3
  unfold l8T at wr
  rw [hv1, hv2] at wr
  repeat' (refine kr_ ?_)
  refine l4Holds_spec (hs.mono K2.le) g hpv a ⟨_, rfl, ?_⟩
  refine bsplit_of (fun e1 => ?_) (fun e1 => ?_)
  · refine bsplit_of (fun e2 => ?_) (fun e2 => ?_)
    · exact wr true (by rw [e1, e2]; rfl)
    · repeat' (refine kr_ ?_)
      refine l4Bad_spec (hs.mono K2.le) g hpv a ⟨_, rfl, ?_⟩
      rw [bad_isSome]
      exact wr _ (by rw [e1, e2]; rfl)
  · exact wr false (by rw [e1]; rfl)
theorem spec_BadSet_spec {h : Hp} {M : MSl} {m : ModelP} {R : Value → Hp → Prop} (hs : ModelS h M m) (hm : Small m)
    (k : ∀ s h', h.le h' → Own (h'.sub h) s 3 (ndCells (badSet m).ns) → R (setV (badSet m) s) h') : c_spec_BadSet #[modelV M] h R := by
  apply R_spec_BadSet
  unfold F_spec_BadSet
  rw [← l8SetP_bad] at k
  have K0 := Kn.nil h
  (with_reducible apply Kn.al); (assumption); (intro b7 h1 K1 l1 hb7)
  (with_reducible apply Kn.al); (assumption); (intro b9 h2 K2 l2 hb9)
  repeat' (refine kr_ ?_)
  refine l8Set_spec (hs.mono K2.le) hm fun s h3 l3 o3 => ⟨_, _, _, _, rfl, ?_⟩
  have K3 := K2.mono l3
  (((with_reducible apply Kn.wr); (assumption); ((focus ((repeat first | exact .head | apply Upd.tail); done)))))
  · exact Nat.le_refl _
  intro h4 K4 kp
  refine ⟨_, by rw [cell_of (K4.at (.head _))]; rfl, _, by rw [cell_of (K4.at (.head _))]; rfl, _, by rw [cell_of (K4.at (.head _))]; rfl, ?_⟩
  exact k s h4 K4.le (o3.mono (sub_keep K2.le (K2.at (.head _)) kp))

section
variable {g h h' : Hp} {L L' A B X : List (Nat × Blk)}
theorem Kn.app (K : Kn g h L) (l : h.le h') (n : ∀ e ∈ X, h e.1 = none) (f : ∀ e ∈ X, h' e.1 = some e.2) (nd : (X.map Prod.fst).Nodup) : Kn g h' (L ++ X) := by
  refine ⟨Hp.le_trans K.le l, fun e he => ?_, fun e he => ?_, ?_⟩
  · rcases List.mem_append.1 he with he | he
    · exact l _ _ (K.mem e he)
    · exact f e he
  · rcases List.mem_append.1 he with he | he
    · exact K.new e he
    · exact none_of_le K.le (n e he)
  · rw [List.map_append, List.nodup_append]
    refine ⟨K.nd, nd, fun a ha b hb hab => ?_⟩
    obtain ⟨e, he, rfl⟩ := List.mem_map.1 ha
    obtain ⟨e', he', rfl⟩ := List.mem_map.1 hb
    have h1 := K.mem e he
    have h2 := n e' he'
    rw [hab, h2] at h1; cases h1
theorem Kn.split (K : Kn g h (A ++ B)) : Kn (h.wo (B.map Prod.fst)) h B ∧ Kn g (h.wo (B.map Prod.fst)) A := by
  have nd := K.nd
  rw [List.map_append, List.nodup_append] at nd
  refine ⟨⟨wo_le _ _, fun e he => K.mem e (List.mem_append_right _ he), fun e he => wo_none (List.mem_map.2 ⟨e, he, rfl⟩), nd.2.1⟩, ?_, fun e he => ?_, fun e he => K.new e (List.mem_append_left _ he), nd.1⟩
  · exact le_wo K.le fun b hb => by
      obtain ⟨e, he, rfl⟩ := List.mem_map.1 hb
      exact K.new e (List.mem_append_right _ he)
  · rw [wo_at]
    · exact K.mem e (List.mem_append_left _ he)
    · intro hb
      exact nd.2.2 _ (List.mem_map.2 ⟨e, he, rfl⟩) _ hb rfl
theorem Kn.off (K : Kn g h L) {b : Nat} {x y : Blk} (u : Upd L b x y L') (l : (h.off b).le h') (f : h' b = some y) : Kn g h' L' := by
  refine ⟨?_, fun e he => ?_, fun e he => ?_, by rw [u.keys]; exact K.nd⟩
  · exact Hp.le_trans (le_off (K.new (b, x) u.mem) K.le) l
  · rcases u.out K.nd e he with rfl | ⟨h1, h2⟩
    · exact f
    · refine l _ _ ?_
      simp only [Hp.off, Hp.set]; rw [if_neg h2]; exact K.mem e h1
  · rcases u.out K.nd e he with rfl | ⟨h1, h2⟩
    · exact K.new (b, x) u.mem
    · exact K.new e h1
/-- What a slice of one's own adds to what is known. -/
def OwnX (X : List (Nat × Blk)) (s : Sl) (sz : Nat) (cs : List Value) : Prop :=
  cs.length = s.n * sz ∧ s.n ≤ 9223372036854775807 ∧ ((s.n = 0 ∧ X = []) ∨ (s.n ≠ 0 ∧ ∃ b z, s.a = some ⟨b, 0, none⟩ ∧ X = [(b, .inl ⟨cs, z, false⟩)]))
theorem Kn.addOwn {s : Sl} {sz : Nat} {cs : List Value} (K : Kn g h L) (l : h.le h') (o : Own (h'.sub h) s sz cs) : ∃ X, OwnX X s sz cs ∧ Kn g h' (L ++ X) := by
  by_cases h0 : s.n = 0
  · exact ⟨[], ⟨o.1, o.2.1, .inl ⟨h0, rfl⟩⟩, by rw [List.append_nil]; exact K.mono l⟩
  · obtain ⟨b, z, ha, hb⟩ := o.2.2.resolve_left h0
    have hn : h b = none := sub_some_none (by rw [hb]; simp)
    refine ⟨_, ⟨o.1, o.2.1, .inr ⟨h0, b, z, ha, rfl⟩⟩, K.app l (fun e he => ?_) (fun e he => ?_) (by simp)⟩
    · rw [List.mem_singleton.1 he]; exact hn
    · rw [List.mem_singleton.1 he]; exact sub_le _ _ _ _ hb
theorem OwnX.own {s : Sl} {sz : Nat} {cs : List Value} (o : OwnX X s sz cs) (K : Kn g h (L ++ X)) : Own h s sz cs := by
  refine ⟨o.1, o.2.1, ?_⟩
  rcases o.2.2 with ⟨h0, _⟩ | ⟨_, b, z, ha, rfl⟩
  · exact .inl h0
  · exact .inr ⟨b, z, ha, K.at (by simp)⟩
theorem OwnX.mark {s : Sl} {sz : Nat} {cs cs' : List Value} (o : OwnX X s sz cs) (K : Kn g h (L ++ X)) (l : (h.wo s.used).le h') (o' : Own h' s sz cs') : ∃ X', OwnX X' s sz cs' ∧ Kn g h' (L ++ X') := by
  rcases o.2.2 with ⟨h0, rfl⟩ | ⟨h0, b, z, ha, rfl⟩
  · refine ⟨[], ⟨o'.1, o'.2.1, .inl ⟨h0, rfl⟩⟩, K.mono ?_⟩
    have : s.used = [] := by unfold Sl.used; rw [if_pos h0]
    rw [this] at l
    exact Hp.le_trans (le_wo (Hp.le_refl _) (fun b hb => by simp at hb)) l
  · obtain ⟨b', z', ha', hb'⟩ := o'.2.2.resolve_left h0
    rw [ha] at ha'; cases ha'
    refine ⟨_, ⟨o'.1, o'.2.1, .inr ⟨h0, b, z', ha, rfl⟩⟩, ?_⟩
    have hu : s.used = [b] := by unfold Sl.used Sl.blk; rw [if_neg h0, ha]
    rw [hu] at l
    have nd := K.nd
    rw [List.map_append, List.nodup_append] at nd
    have hbn : g b = none := K.new (b, .inl ⟨cs, z, false⟩) (List.mem_append_right _ (by simp))
    have hne : ∀ e ∈ L, e.1 ≠ b := fun e he hb => nd.2.2 _ (List.mem_map.2 ⟨e, he, rfl⟩) b (by simp) hb
    have hwo : ∀ c, c ≠ b → (h.wo [b]) c = h c := fun c hc => wo_at (by simpa using hc)
    refine ⟨?_, fun e he => ?_, fun e he => ?_, ?_⟩
    · exact Hp.le_trans (le_wo K.le fun c hc => by rw [List.mem_singleton.1 hc]; exact hbn) l
    · rcases List.mem_append.1 he with he | he
      · exact l _ _ (by rw [hwo _ (hne e he)]; exact K.mem e (List.mem_append_left _ he))
      · rw [List.mem_singleton.1 he]; exact hb'
    · rcases List.mem_append.1 he with he | he
      · exact K.new e (List.mem_append_left _ he)
      · rw [List.mem_singleton.1 he]; exact hbn
    · rw [List.map_append, List.nodup_append]
      exact ⟨nd.1, by simp, fun a ha c hc => nd.2.2 a ha c (by simpa using hc)⟩
end

theorem szNode_spec {h : Hp} {n : NodeP} {left : Int} {R : Value → Hp → Prop} (hsz : n.name.size ≤ 9223372036854775807) (h0 : 0 ≤ left) (h1 : left ≤ 1048576)
    (k : ∀ r : Int, (r < 0 ∨ (0 ≤ r ∧ r ≤ left ∧ n.name.size ≤ 1048576)) → R (I r) h) : c_laws_szNode #[nodeV n, I left] h R := by
  refine ACalls.drop (R_laws_szNode ?_)
  unfold F_laws_szNode
  refine alloc_of fun b h2 hb l f => ?_
  (refine rdx_ ?_)
  rw [W_id (by omega) (by omega)]
  refine bsplit_of (fun e => ⟨_, l, k _ (.inl (by omega))⟩) (fun e => ⟨_, l, k _ (.inr ?_)⟩)
  have := of_decide_eq_false e
  omega
theorem szNodeS_spec {h : Hp} {s : Sl} {l : List NodeP} {left : Int} {R : Value → Hp → Prop} (hs : NodeS h s l) (hsz : ∀ n ∈ l, n.name.size ≤ 9223372036854775807) (h0 : 0 ≤ left) (h1 : left ≤ 1048576)
    (k : ∀ r : Int, (r < 0 ∨ (0 ≤ r ∧ r ≤ left ∧ l.length ≤ 1048576 ∧ ∀ n ∈ l, n.name.size ≤ 1048576)) → R (I r) h) : c_laws_szNodeS #[s.v, I left] h R := by
  apply R_laws_szNodeS
  unfold F_laws_szNodeS
  have hn := hs.len
  have hb := hs.1
  rw [W_id (by omega) (by omega)]
  refine bsplit_of (fun e => k _ (.inl (by omega))) (fun e => ?_)
  have e' := of_decide_eq_false e
  refine loop_up l.length (fun i vs h' => ∃ r : Int, vs = [s.v, I r, I i] ∧ h' = h ∧ 0 ≤ r ∧ r ≤ left ∧ ∀ n ∈ l.take i, n.name.size ≤ 1048576) ⟨_, rfl, rfl, by omega, by omega, fun n hn => by simp at hn⟩ ?_
  rintro i _ _ next hi ⟨r, rfl, rfl, r0, r1, hall⟩ hnx
  rename_i h
  refine ⟨s, _, _, rfl, ?_⟩
  by_cases hlt : i < l.length
  rotate_left
  · refine bs_f (by simp; omega) (k r (.inr ⟨r0, r1, by omega, ?_⟩))
    rwa [List.take_of_length_le (by omega)] at hall
  refine bs_t (by simp; omega) ?_
  obtain ⟨n, hni⟩ : ∃ n, l[i]? = some n := ⟨_, List.getElem?_eq_getElem hlt⟩
  obtain ⟨b, o, ha, c0, c1, c2, c3, c4, c5, c6, c7, c8⟩ := hs.at hni
  refine ⟨b, o, ha, by omega, by omega, _, c0, _, c1, _, c2, _, c3, _, c4, _, c5, _, c6, _, c7, _, c8, ?_⟩
  refine szNode_spec (n := n) (hsz n (List.mem_of_getElem? hni)) r0 (by omega) fun q hq => ⟨_, rfl, bsplit_of (fun e => k _ (.inl (by omega))) (fun e => ?_)⟩
  have := of_decide_eq_false e
  rcases hq with hq | ⟨q0, q1, q2⟩
  · omega
  rw [W_succ (by omega)]
  refine hnx hlt _ _ ⟨q, rfl, rfl, q0, by omega, fun n' hn' => ?_⟩
  rw [List.getElem?_eq_getElem hlt] at hni
  rw [List.take_succ_eq_append_getElem hlt, List.mem_append, List.mem_singleton, Option.some.inj hni] at hn'
  rcases hn' with hn' | rfl
  · exact hall n' hn'
  · exact q2
theorem szBindS_spec {h : Hp} {s : Sl} {l : List BindP} {left : Int} {R : Value → Hp → Prop} (hs : BindS h s l) (h0 : 0 ≤ left) (h1 : left ≤ 1048576)
    (k : ∀ r : Int, (r < 0 ∨ (0 ≤ r ∧ r ≤ left ∧ l.length ≤ 1048576)) → R (I r) h) : c_laws_szBindS #[s.v, I left] h R := by
  apply R_laws_szBindS
  unfold F_laws_szBindS
  have hn := hs.len
  have hb := hs.1
  rw [W_id (by omega) (by omega)]
  refine bsplit_of (fun e => k _ (.inl (by omega))) (fun e => k _ (.inr ?_))
  have := of_decide_eq_false e
  omega
theorem szModel_spec {h : Hp} {M : MSl} {m : ModelP} {R : Value → Hp → Prop} (hs : ModelS h M m) (hsz : ∀ n ∈ m.nodes, n.name.size ≤ 9223372036854775807)
    (k : ∀ r : Int, (r < 0 ∨ (0 ≤ r ∧ r ≤ 1048576 ∧ Small m)) → R (I r) h) : c_laws_szModel #[modelV M, I 1048576] h R := by
  refine ACalls.drop (R_laws_szModel ?_)
  unfold F_laws_szModel
  refine alloc_of fun b8 h1 hb8 l1 f8 => ?_
  have neg : ∀ {h' : Hp}, h.le h' → ∃ h'' : Hp, h''.le h' ∧ R (I (-1)) h'' := fun l => ⟨_, l, k _ (.inl (by omega))⟩
  (refine rdx_ ?_)
  refine szNodeS_spec (hs.mono l1).nodes hsz (by omega) (by omega) fun r1 q1 => ⟨_, rfl, bsplit_of (fun e => neg l1) (fun e1 => ?_)⟩
  have e1 := of_decide_eq_false e1
  obtain ⟨a1, a2, a3, a4⟩ := q1.resolve_left e1
  (refine rdx_ ?_)
  refine szBindS_spec (hs.mono l1).inits a1 (by omega) fun r2 q2 => ⟨_, rfl, bsplit_of (fun e => neg l1) (fun e2 => ?_)⟩
  have e2 := of_decide_eq_false e2
  obtain ⟨b1, b2, b3⟩ := q2.resolve_left e2
  (refine rdx_ ?_)
  refine szBindS_spec (hs.mono l1).nexts b1 (by omega) fun r3 q3 => ⟨_, rfl, bsplit_of (fun e => neg l1) (fun e3 => ?_)⟩
  have e3 := of_decide_eq_false e3
  obtain ⟨c1, c2, c3⟩ := q3.resolve_left e3
  (refine rdx_ ?_)
  refine szIntS_spec (hs.mono l1).bads c1 (by omega) fun r4 q4 => ⟨_, rfl, bsplit_of (fun e => neg l1) (fun e4 => ?_)⟩
  have e4 := of_decide_eq_false e4
  have d1 := q4.resolve_left e4
  (refine rdx_ ?_)
  refine szIntS_spec (hs.mono l1).holds d1.1 (by omega) fun r5 q5 => ⟨_, rfl, bsplit_of (fun e => neg l1) (fun e5 => ⟨_, l1, k _ (.inr ?_)⟩)⟩
  have e5 := of_decide_eq_false e5
  have f1 := q5.resolve_left e5
  exact ⟨f1.1, by omega, ⟨a3, b3, c3, by omega, by omega, a4⟩⟩

theorem toSort_spec {h : Hp} {i w : Int} {R : Value → Hp → Prop} (k : R (.agg #[I i, I w]) h) : c_laws_toSort #[.agg #[I i, I w]] h R := by
  refine ACalls.drop (R_laws_toSort ?_)
  unfold F_laws_toSort
  have K0 := Kn.nil h
  (with_reducible apply Kn.al); (assumption); (intro b4 h1 K1 l1 hb4)
  (with_reducible apply Kn.al); (assumption); (intro b6 h2 K2 l2 hb6)
  (with_reducible apply Kn.al); (assumption); (intro b9 h3 K3 l3 hb9)
  repeat' (first | (refine kr_ ?_) | ((((with_reducible apply Kn.wr); (assumption); ((focus ((repeat first | exact .head | apply Upd.tail); done))))); (exact of_decide_eq_true rfl); (intro _ _ _)))
  exact ⟨_, Kn.le (by assumption), k⟩
theorem toBind_spec {h : Hp} {b : BindP} {R : Value → Hp → Prop} (k : R (bindV b) h) : c_laws_toBind #[bindV b] h R := by
  refine ACalls.drop (R_laws_toBind ?_)
  unfold F_laws_toBind
  have K0 := Kn.nil h
  (with_reducible apply Kn.al); (assumption); (intro b4 h1 K1 l1 hb4)
  (with_reducible apply Kn.al); (assumption); (intro b6 h2 K2 l2 hb6)
  (with_reducible apply Kn.al); (assumption); (intro b9 h3 K3 l3 hb9)
  repeat' (first | (refine kr_ ?_) | ((((with_reducible apply Kn.wr); (assumption); ((focus ((repeat first | exact .head | apply Upd.tail); done))))); (exact of_decide_eq_true rfl); (intro _ _ _)))
  exact ⟨_, Kn.le (by assumption), k⟩

theorem lset_more : ∀ (vs cs : List Value) (o : Nat), o + vs.length ≤ cs.length → (lset cs o vs).take (o + vs.length) = cs.take o ++ vs := by
  intro vs
  induction vs with
  | nil => intro cs o _; simp [lset_nil]
  | cons v r ih =>
    intro cs o h
    rw [List.length_cons] at h ⊢
    rw [lset_cons, show o + (r.length + 1) = (o + 1) + r.length by omega, ih _ _ (by rw [List.length_set]; omega), take_set v (by omega), List.append_assoc]; rfl
theorem toNode_spec {h : Hp} {n : NodeP} {R : Value → Hp → Prop} (k : R (nodeV n) h) : c_laws_toNode #[nodeV n] h R := by
  refine ACalls.drop (R_laws_toNode ?_)
  unfold F_laws_toNode
  have K0 := Kn.nil h
  (with_reducible apply Kn.al); (assumption); (intro b4 h1 K1 l1 hb4)
  (with_reducible apply Kn.al); (assumption); (intro b6 h2 K2 l2 hb6)
  (with_reducible apply Kn.al); (assumption); (intro b9 h3 K3 l3 hb9)
  repeat' (first | (refine kr_ ?_) | ((((with_reducible apply Kn.wr); (assumption); ((focus ((repeat first | exact .head | apply Upd.tail); done))))); (exact of_decide_eq_true rfl); (intro _ _ _)) | (refine toSort_spec ⟨_, _, rfl, ?_⟩))
  exact ⟨_, Kn.le (by assumption), k⟩
theorem flat_take {α : Type} {f : α → List Value} {l : List α} {i : Nat} {x : α} (h : l[i]? = some x) : (l.take (i + 1)).flatMap f = (l.take i).flatMap f ++ f x := by
  have hlt := get_lt h
  rw [List.getElem?_eq_getElem hlt] at h
  rw [List.take_succ_eq_append_getElem hlt, List.flatMap_append, Option.some.inj h]; simp
theorem zeroRow_len (z : Array Value) (n : Nat) : (zeroRow z n).length = n := by simp [zeroRow]
theorem toNodeS_spec {h : Hp} {s : Sl} {l : List NodeP} {R : Value → Hp → Prop} (hs : NodeS h s l) (hl : l.length ≤ 1048576)
    (k : ∀ b h', h b = none → h.le h' → h' b = some (.inl ⟨l.flatMap nodeCells, l.length * 9, false⟩) → R (Sl.v (arr b l.length)) h') : c_laws_toNodeS #[s.v] h R := by
  apply R_laws_toNodeS
  unfold F_laws_toNodeS
  have hn := hs.len
  refine ⟨by omega, by omega, by omega, by omega, ?_⟩
  rw [Int.toNat_natCast, hn]
  refine alloc_of fun b h1 hb l1 f1 => ?_
  refine loop_up l.length (fun i vs h' => vs = [s.v, (arr b l.length).v, I i] ∧ h.le h' ∧ ∃ cs, h' b = some (.inl ⟨cs, l.length * 9, false⟩) ∧ cs.length = l.length * 9 ∧ cs.take (i * 9) = (l.take i).flatMap nodeCells) ⟨rfl, l1, _, f1, zeroRow_len _ _, by simp⟩ ?_
  clear f1 l1 h1
  rintro i _ h1 next hi ⟨rfl, l1, cs, f1, hcl, htk⟩ hnx
  refine ⟨s, arr b _, _, rfl, ?_⟩
  by_cases hlt : i < l.length
  rotate_left
  · have hie : i = l.length := by omega
    subst hie
    refine bs_f (by simp; omega) (k b h1 hb l1 ?_)
    rw [List.take_of_length_le (by omega), List.take_length] at htk
    rw [← htk]; exact f1
  refine bs_t (by simp; omega) ?_
  obtain ⟨n, hni⟩ : ∃ n, l[i]? = some n := ⟨_, List.getElem?_eq_getElem hlt⟩
  obtain ⟨bn, o, ha, c0, c1, c2, c3, c4, c5, c6, c7, c8⟩ := (hs.mono l1).at hni
  refine ⟨bn, o, ha, by omega, by omega, _, c0, _, c1, _, c2, _, c3, _, c4, _, c5, _, c6, _, c7, _, c8, ?_⟩
  refine toNode_spec (n := n) ⟨_, _, _, _, _, _, _, _, _, rfl, ?_⟩
  refine ex_ptrA ⟨by omega, by dsimp only; omega, ?_⟩
  (with_reducible apply wr_of); (exact f1); (exact l1); (exact hb); (rw [Int.toNat_natCast]; omega)
  intro h2 f2 kp l2
  rw [W_succ (by omega)]
  refine hnx hlt _ _ ⟨rfl, l2, _, f2, by rw [lset_length]; exact hcl, ?_⟩
  have := lset_more (nodeCells n) cs (i * 9) (by show i * 9 + 9 ≤ _; omega)
  rw [Int.toNat_natCast, Nat.zero_add]
  rw [flat_take hni, ← htk, show (i + 1) * 9 = i * 9 + (nodeCells n).length by show _ = i * 9 + 9; omega]
  exact this
theorem toBindS_spec {h : Hp} {s : Sl} {l : List BindP} {R : Value → Hp → Prop} (hs : BindS h s l) (hl : l.length ≤ 1048576)
    (k : ∀ b h', h b = none → h.le h' → h' b = some (.inl ⟨l.flatMap bindCells, l.length * 2, false⟩) → R (Sl.v (arr b l.length)) h') : c_laws_toBindS #[s.v] h R := by
  apply R_laws_toBindS
  unfold F_laws_toBindS
  have hn := hs.len
  refine ⟨by omega, by omega, by omega, by omega, ?_⟩
  rw [Int.toNat_natCast, hn]
  refine alloc_of fun b h1 hb l1 f1 => ?_
  refine loop_up l.length (fun i vs h' => vs = [s.v, (arr b l.length).v, I i] ∧ h.le h' ∧ ∃ cs, h' b = some (.inl ⟨cs, l.length * 2, false⟩) ∧ cs.length = l.length * 2 ∧ cs.take (i * 2) = (l.take i).flatMap bindCells) ⟨rfl, l1, _, f1, zeroRow_len _ _, by simp⟩ ?_
  clear f1 l1 h1
  rintro i _ h1 next hi ⟨rfl, l1, cs, f1, hcl, htk⟩ hnx
  refine ⟨s, arr b _, _, rfl, ?_⟩
  by_cases hlt : i < l.length
  rotate_left
  · have hie : i = l.length := by omega
    subst hie
    refine bs_f (by simp; omega) (k b h1 hb l1 ?_)
    rw [List.take_of_length_le (by omega), List.take_length] at htk
    rw [← htk]; exact f1
  refine bs_t (by simp; omega) ?_
  obtain ⟨n, hni⟩ : ∃ n, l[i]? = some n := ⟨_, List.getElem?_eq_getElem hlt⟩
  obtain ⟨bn, o, ha, c0, c1⟩ := (hs.mono l1).at hni
  refine ⟨bn, o, ha, by omega, by omega, _, c0, _, c1, ?_⟩
  refine toBind_spec (b := n) ⟨_, _, rfl, ?_⟩
  refine ex_ptrA ⟨by omega, by dsimp only; omega, ?_⟩
  (with_reducible apply wr_of); (exact f1); (exact l1); (exact hb); (rw [Int.toNat_natCast]; omega)
  intro h2 f2 kp l2
  rw [W_succ (by omega)]
  refine hnx hlt _ _ ⟨rfl, l2, _, f2, by rw [lset_length]; exact hcl, ?_⟩
  have := lset_more (bindCells n) cs (i * 2) (by show i * 2 + 2 ≤ _; omega)
  rw [Int.toNat_natCast, Nat.zero_add]
  rw [flat_take hni, ← htk, show (i + 1) * 2 = i * 2 + (bindCells n).length by show _ = i * 2 + 2; omega]
  exact this
theorem toIntS_row {h : Hp} {s : Sl} {l : List Int} {R : Value → Hp → Prop} (hs : IntS h s l) (hl : l.length ≤ 1048576)
    (k : ∀ b h', h b = none → h.le h' → h' b = some (.inl ⟨l.map I, l.length * 1, false⟩) → R (Sl.v (arr b l.length)) h') : c_laws_toIntS #[s.v] h R := by
  apply R_laws_toIntS
  unfold F_laws_toIntS
  have hn := hs.len
  refine ⟨by omega, by omega, by omega, by omega, ?_⟩
  rw [Int.toNat_natCast, hn]
  refine alloc_of fun b h1 hb l1 f1 => ?_
  refine loop_up l.length (fun i vs h' => vs = [s.v, (arr b l.length).v, I i] ∧ h.le h' ∧ ∃ cs, h' b = some (.inl ⟨cs, l.length * 1, false⟩) ∧ cs.length = l.length ∧ cs.take i = (l.take i).map I) ⟨rfl, l1, _, f1, by rw [zeroRow_len, Nat.mul_one], by simp⟩ ?_
  clear f1 l1 h1
  rintro i _ h1 next hi ⟨rfl, l1, cs, f1, hcl, htk⟩ hnx
  refine ⟨s, arr b _, _, rfl, ?_⟩
  by_cases hlt : i < l.length
  rotate_left
  · have hie : i = l.length := by omega
    subst hie
    refine bs_f (by simp; omega) (k b h1 hb l1 ?_)
    rw [List.take_of_length_le (by omega), List.take_length] at htk
    rw [← htk]; exact f1
  refine bs_t (by simp; omega) ?_
  obtain ⟨n, hni⟩ : ∃ n, l[i]? = some n := ⟨_, List.getElem?_eq_getElem hlt⟩
  obtain ⟨bn, o, ha, c0⟩ := (hs.mono l1).get hni
  refine ⟨bn, o, ha, by omega, by omega, _, c0, ?_⟩
  refine ex_ptrA ⟨by omega, by dsimp only; omega, ?_⟩
  (with_reducible apply wr_of); (exact f1); (exact l1); (exact hb); (rw [Int.toNat_natCast]; omega)
  intro h2 f2 kp l2
  rw [W_succ (by omega)]
  refine hnx hlt _ _ ⟨rfl, l2, _, f2, by rw [lset_length]; exact hcl, ?_⟩
  rw [Int.toNat_natCast, Nat.zero_add, Nat.mul_one, lset_one, take_set _ (by omega), htk, List.take_succ_eq_append_getElem hlt, List.map_append]
  rw [List.getElem?_eq_getElem hlt] at hni
  rw [Option.some.inj hni]; rfl
/-- A model with blocks of its own. -/
def modL (m : ModelP) (bn bi bx bb bh : Nat) : List (Nat × Blk) :=
  [(bn, .inl ⟨m.nodes.flatMap nodeCells, m.nodes.length * 9, false⟩), (bi, .inl ⟨m.inits.flatMap bindCells, m.inits.length * 2, false⟩), (bx, .inl ⟨m.nexts.flatMap bindCells, m.nexts.length * 2, false⟩),
   (bb, .inl ⟨m.bads.map I, m.bads.length * 1, false⟩), (bh, .inl ⟨m.holds.map I, m.holds.length * 1, false⟩)]
abbrev modM (m : ModelP) (bn bi bx bb bh : Nat) : MSl := ⟨arr bn m.nodes.length, arr bi m.inits.length, arr bx m.nexts.length, arr bb m.bads.length, arr bh m.holds.length⟩
theorem toModel_spec {h : Hp} {M : MSl} {m : ModelP} {R : Value → Hp → Prop} (hs : ModelS h M m) (hm : Small m)
    (k : ∀ bn bi bx bb bh h', Kn h h' (modL m bn bi bx bb bh) → R (modelV (modM m bn bi bx bb bh)) h') : c_laws_toModel #[modelV M] h R := by
  apply R_laws_toModel
  unfold F_laws_toModel
  have K0 := Kn.nil h
  (with_reducible apply Kn.al); (assumption); (intro b7 h1 K1 l1 hb7)
  (with_reducible apply Kn.al); (assumption); (intro b9 h2 K2 l2 hb9)
  (with_reducible apply Kn.al); (assumption); (intro b12 h3 K3 l3 hb12)
  repeat' (refine kr_ ?_)
  refine toNodeS_spec (hs.mono K3.le).nodes hm.nodes fun bn h4 hbn l4 f4 => ⟨_, rfl, ?_⟩
  have K4 := K3.cons hbn l4 f4
  (((with_reducible apply Kn.wr); (assumption); ((focus ((repeat first | exact .head | apply Upd.tail); done)))))
  · exact of_decide_eq_true rfl
  intro h5 K5 _
  repeat' (refine kr_ ?_)
  refine toBindS_spec (hs.mono K5.le).inits hm.inits fun bi h6 hbi l6 f6 => ⟨_, rfl, ?_⟩
  have K6 := K5.cons hbi l6 f6
  (((with_reducible apply Kn.wr); (assumption); ((focus ((repeat first | exact .head | apply Upd.tail); done)))))
  · exact of_decide_eq_true rfl
  intro h7 K7 _
  repeat' (refine kr_ ?_)
  refine toBindS_spec (hs.mono K7.le).nexts hm.nexts fun bx h8 hbx l8 f8 => ⟨_, rfl, ?_⟩
  have K8 := K7.cons hbx l8 f8
  (((with_reducible apply Kn.wr); (assumption); ((focus ((repeat first | exact .head | apply Upd.tail); done)))))
  · exact of_decide_eq_true rfl
  intro h9 K9 _
  repeat' (refine kr_ ?_)
  refine toIntS_row (hs.mono K9.le).bads hm.bads fun bb h10 hbb l10 f10 => ⟨_, rfl, ?_⟩
  have K10 := K9.cons hbb l10 f10
  (((with_reducible apply Kn.wr); (assumption); ((focus ((repeat first | exact .head | apply Upd.tail); done)))))
  · exact of_decide_eq_true rfl
  intro h11 K11 _
  repeat' (refine kr_ ?_)
  refine toIntS_row (hs.mono K11.le).holds hm.holds fun bh h12 hbh l12 f12 => ⟨_, rfl, ?_⟩
  have K12 := K11.cons hbh l12 f12
  (((with_reducible apply Kn.wr); (assumption); ((focus ((repeat first | exact .head | apply Upd.tail); done)))))
  · exact of_decide_eq_true rfl
  intro h13 K13 _
  repeat' (refine kr_ ?_)
  (((with_reducible apply Kn.wr); (assumption); ((focus ((repeat first | exact .head | apply Upd.tail); done)))))
  · exact of_decide_eq_true rfl
  intro h14 K14 _
  repeat' (refine kr_ ?_)
  refine k bn bi bx bb bh h14 (K14.sub (fun e he => ?_) ?_)
  · simp only [modL, List.mem_cons, List.not_mem_nil, or_false] at he
    rcases he with rfl | rfl | rfl | rfl | rfl
    · exact .tail _ (.tail _ (.tail _ (.tail _ (.head _))))
    · exact .tail _ (.tail _ (.tail _ (.head _)))
    · exact .tail _ (.tail _ (.head _))
    · exact .tail _ (.head _)
    · exact .head _
  · have nd : ([bh, bb, bx, bi, bn] ++ [b12, b9, b7]).Nodup := K14.nd
    have nd2 : ([bh, bb, bx, bi, bn] : List Nat).reverse.Nodup := (List.reverse_perm _).nodup_iff.2 (List.nodup_append.1 nd).1
    exact nd2
theorem mod_S {g h : Hp} {X : List (Nat × Blk)} {m : ModelP} {bn bi bx bb bh : Nat} (K : Kn g h (modL m bn bi bx bb bh ++ X)) (hm : Small m) : ModelS h (modM m bn bi bx bb bh) m := by
  have g1 := hm.nodes
  have g2 := hm.inits
  have g3 := hm.nexts
  have g4 := hm.bads
  have g5 := hm.holds
  refine ⟨⟨by dsimp only; omega, by rw [flat_len (m := 9) (fun _ => rfl)], .inr ⟨bn, 0, rfl, cellsAre_of (K.at (List.mem_append_left _ (.head _)))⟩⟩,
    ⟨by dsimp only; omega, by rw [flat_len (m := 2) (fun _ => rfl)], .inr ⟨bi, 0, rfl, cellsAre_of (K.at (List.mem_append_left _ (.tail _ (.head _))))⟩⟩,
    ⟨by dsimp only; omega, by rw [flat_len (m := 2) (fun _ => rfl)], .inr ⟨bx, 0, rfl, cellsAre_of (K.at (List.mem_append_left _ (.tail _ (.tail _ (.head _)))))⟩⟩,
    ⟨by dsimp only; omega, by simp, .inr ⟨bb, 0, rfl, cellsAre_of (K.at (List.mem_append_left _ (.tail _ (.tail _ (.tail _ (.head _))))))⟩⟩,
    ⟨by dsimp only; omega, by simp, .inr ⟨bh, 0, rfl, cellsAre_of (K.at (List.mem_append_left _ (.tail _ (.tail _ (.tail _ (.tail _ (.head _)))))))⟩⟩, Nat.le_refl _⟩

theorem eqSort_same {h : Hp} {i w : Int} {R : Value → Hp → Prop} (k : R (.bool true) h) : c_laws_eqSort #[.agg #[I i, I w], .agg #[I i, I w]] h R := by
  refine ACalls.drop (R_laws_eqSort ?_)
  unfold F_laws_eqSort
  have K0 := Kn.nil h
  (with_reducible apply Kn.al); (assumption); (intro b4 h1 K1 l1 hb4)
  (with_reducible apply Kn.al); (assumption); (intro b6 h2 K2 l2 hb6)
  repeat' (first | (refine kr_ ?_) | (refine bs_f (by simp) ?_))
  exact ⟨_, K2.le, k⟩
theorem eqBind_same {h : Hp} {b : BindP} {R : Value → Hp → Prop} (k : R (.bool true) h) : c_laws_eqBind #[bindV b, bindV b] h R := by
  refine ACalls.drop (R_laws_eqBind ?_)
  unfold F_laws_eqBind
  have K0 := Kn.nil h
  (with_reducible apply Kn.al); (assumption); (intro b4 h1 K1 l1 hb4)
  (with_reducible apply Kn.al); (assumption); (intro b6 h2 K2 l2 hb6)
  repeat' (first | (refine kr_ ?_) | (refine bs_f (by simp) ?_))
  exact ⟨_, K2.le, k⟩
theorem eqNode_same {h : Hp} {n : NodeP} {R : Value → Hp → Prop} (k : R (.bool true) h) : c_laws_eqNode #[nodeV n, nodeV n] h R := by
  refine ACalls.drop (R_laws_eqNode ?_)
  unfold F_laws_eqNode
  have K0 := Kn.nil h
  (with_reducible apply Kn.al); (assumption); (intro b4 h1 K1 l1 hb4)
  (with_reducible apply Kn.al); (assumption); (intro b6 h2 K2 l2 hb6)
  repeat' (first | (refine kr_ ?_) | (refine bs_f (by simp) ?_) | (refine eqSort_same ⟨_, rfl, ?_⟩))
  exact ⟨_, K2.le, k⟩
theorem eqNodeS_same {h : Hp} {s t : Sl} {l : List NodeP} {R : Value → Hp → Prop} (hs : NodeS h s l) (ht : NodeS h t l) (k : R (.bool true) h) : c_laws_eqNodeS #[s.v, t.v] h R := by
  apply R_laws_eqNodeS
  unfold F_laws_eqNodeS
  have hn := hs.len
  have hn2 := ht.len
  have hb := hs.1
  refine bs_f (by simp; omega) ?_
  refine loop_up l.length (fun i vs h' => vs = [s.v, t.v, I i] ∧ h' = h) ⟨rfl, rfl⟩ ?_
  rintro i _ _ next hi ⟨rfl, rfl⟩ hnx
  rename_i h
  refine ⟨s, t, _, rfl, ?_⟩
  by_cases hlt : i < l.length
  · refine bs_t (by simp; omega) ?_
    obtain ⟨n, hni⟩ : ∃ n, l[i]? = some n := ⟨_, List.getElem?_eq_getElem hlt⟩
    obtain ⟨b, o, ha, c0, c1, c2, c3, c4, c5, c6, c7, c8⟩ := hs.at hni
    obtain ⟨b', o', ha', d0, d1, d2, d3, d4, d5, d6, d7, d8⟩ := ht.at hni
    refine ⟨b, o, ha, by omega, by omega, b', o', ha', by omega, by omega, _, c0, _, c1, _, c2, _, c3, _, c4, _, c5, _, c6, _, c7, _, c8, _, d0, _, d1, _, d2, _, d3, _, d4, _, d5, _, d6, _, d7, _, d8, ?_⟩
    refine eqNode_same (n := n) ⟨_, rfl, bs_f rfl ?_⟩
    rw [W_succ (by omega)]
    exact hnx hlt _ _ ⟨rfl, rfl⟩
  · exact bs_f (by simp; omega) k
theorem eqBindS_same {h : Hp} {s t : Sl} {l : List BindP} {R : Value → Hp → Prop} (hs : BindS h s l) (ht : BindS h t l) (k : R (.bool true) h) : c_laws_eqBindS #[s.v, t.v] h R := by
  apply R_laws_eqBindS
  unfold F_laws_eqBindS
  have hn := hs.len
  have hn2 := ht.len
  have hb := hs.1
  refine bs_f (by simp; omega) ?_
  refine loop_up l.length (fun i vs h' => vs = [s.v, t.v, I i] ∧ h' = h) ⟨rfl, rfl⟩ ?_
  rintro i _ _ next hi ⟨rfl, rfl⟩ hnx
  rename_i h
  refine ⟨s, t, _, rfl, ?_⟩
  by_cases hlt : i < l.length
  · refine bs_t (by simp; omega) ?_
    obtain ⟨n, hni⟩ : ∃ n, l[i]? = some n := ⟨_, List.getElem?_eq_getElem hlt⟩
    obtain ⟨b, o, ha, c0, c1⟩ := hs.at hni
    obtain ⟨b', o', ha', d0, d1⟩ := ht.at hni
    refine ⟨b, o, ha, by omega, by omega, b', o', ha', by omega, by omega, _, c0, _, c1, _, d0, _, d1, ?_⟩
    refine eqBind_same (b := n) ⟨_, rfl, bs_f rfl ?_⟩
    rw [W_succ (by omega)]
    exact hnx hlt _ _ ⟨rfl, rfl⟩
  · exact bs_f (by simp; omega) k
theorem eqModel_same {h : Hp} {M M' : MSl} {m : ModelP} {R : Value → Hp → Prop} (hs : ModelS h M m) (ht : ModelS h M' m) (k : R (.bool true) h) : c_laws_eqModel #[modelV M, modelV M'] h R := by
  refine ACalls.drop (R_laws_eqModel ?_)
  unfold F_laws_eqModel
  have K0 := Kn.nil h
  (with_reducible apply Kn.al); (assumption); (intro b4 h1 K1 l1 hb4)
  (with_reducible apply Kn.al); (assumption); (intro b6 h2 K2 l2 hb6)
  have hs2 := hs.mono K2.le
  have ht2 := ht.mono K2.le
  repeat' (refine kr_ ?_)
  refine eqNodeS_same hs2.nodes ht2.nodes ⟨_, rfl, bs_f rfl ?_⟩
  repeat' (refine kr_ ?_)
  refine eqBindS_same hs2.inits ht2.inits ⟨_, rfl, bs_f rfl ?_⟩
  repeat' (refine kr_ ?_)
  refine eqBindS_same hs2.nexts ht2.nexts ⟨_, rfl, bs_f rfl ?_⟩
  repeat' (refine kr_ ?_)
  refine eqIntS_spec hs2.bads ht2.bads ⟨_, rfl, bs_f (by simp) ?_⟩
  repeat' (refine kr_ ?_)
  refine eqIntS_spec hs2.holds ht2.holds ⟨_, rfl, bs_f (by simp) ?_⟩
  exact ⟨_, K2.le, k⟩

theorem markText_spec {h : Hp} {x : Int} {R : Value → Hp → Prop} (hx : x ≤ 9223372036854775000) (k : ∀ s : ByteArray, R (.string s) h) : c_laws_markText #[I x] h R := by
  refine ACalls.drop (R_laws_markText ?_)
  unfold F_laws_markText
  refine bsplit_of (fun e => ⟨_, Hp.le_refl _, k _⟩) (fun e => ?_)
  have e := of_decide_eq_false e
  obtain ⟨n, rfl⟩ : ∃ n : Nat, x = n := ⟨x.toNat, by omega⟩
  refine loop_down n (fun q vs h' => ∃ s : ByteArray, vs = [I q, .string s] ∧ h.le h' ∧ s.size + q ≤ 9223372036854775000) ⟨_, rfl, Hp.le_refl _, by show 0 + n ≤ _; omega⟩ ?_
  rintro q _ h1 next ⟨s, rfl, l1, hsz⟩ hnx
  refine ⟨_, s, rfl, ?_⟩
  refine bsplit_of (fun e => ?_) (fun e => ?_)
  · have e := of_decide_eq_true e
    refine alloc_of fun b h2 hb l2 f2 => ?_
    have hm : Int.tmod (q : Int) 10 = ((q % 10 : Nat) : Int) := tmod_nat q 10
    have hd : Int.tdiv (q : Int) 10 = ((q / 10 : Nat) : Int) := tdiv_nat q 10
    have hmod : q % 10 < 10 := Nat.mod_lt _ (by omega)
    have hw : IntKind.wrap .u8 (W (48 + ((q % 10 : Nat) : Int))) = ((48 + q % 10 : Nat) : Int) := by
      rw [W_id (by omega) (by omega), IntKind.wrap_u8]; omega
    rw [hm, hw] at f2
    refine ⟨[UInt8.ofNat (48 + q % 10)], ⟨rfl, .inr ⟨b, 0, rfl, ?_⟩⟩, ?_⟩
    · have hc : byteCells [UInt8.ofNat (48 + q % 10)] = [.int .u8 ((48 + q % 10 : Nat) : Int)] := by
        unfold byteCells
        rw [List.map_cons, List.map_nil]
        have : (UInt8.ofNat (48 + q % 10)).toNat = 48 + q % 10 := by rw [UInt8.toNat_ofNat']; omega
        rw [this]; rfl
      rw [hc]; exact cellsAre_of f2
    · have h1s : (⟨[UInt8.ofNat (48 + q % 10)].toArray⟩ : ByteArray).size = 1 := rfl
      rw [h1s, hd, W_nat (by omega)]
      refine ⟨by omega, hnx (q / 10) (by omega) _ _ ⟨_, rfl, Hp.le_trans l1 l2, ?_⟩⟩
      rw [ByteArray.size_append, h1s]
      omega
  · have h1s : (⟨#[109]⟩ : ByteArray).size = 1 := rfl
    exact ⟨by rw [h1s]; omega, _, l1, k _⟩
theorem W_plus {x : Int} (h0 : 0 ≤ x) (h : x ≤ 9223372036854775000) : W (x + 1) = x + 1 := W_id (by omega) (by omega)
theorem markNodeS_spec {h : Hp} {b n z : Nat} {cs : List Value} {k0 : Int} {R : Value → Hp → Prop} (f : h b = some (.inl ⟨cs, z, false⟩)) (hl : cs.length = n * 9) (h0 : 0 ≤ k0) (hk : k0 + n * 9 ≤ 1000000000000)
    (k : ∀ h' cs', (h.off b).le h' → h' b = some (.inl ⟨cs', z, false⟩) → cs'.length = n * 9 → R (I (k0 + n * 9)) h') : c_laws_markNodeS #[(arr b n).v, I k0] h R := by
  apply R_laws_markNodeS
  unfold F_laws_markNodeS
  refine loop_up n (fun i vs h' => vs = [(arr b n).v, I (k0 + i * 9), I i] ∧ ∃ cs, Kn (h.off b) h' [(b, .inl ⟨cs, z, false⟩)] ∧ cs.length = n * 9) ⟨by simp, cs, ?_, hl⟩ ?_
  · exact ⟨off_le _ _, fun e he => by rw [List.mem_singleton.1 he]; exact f, fun e he => by rw [List.mem_singleton.1 he]; exact off_at _ _, by simp⟩
  clear f hl cs
  rintro i _ h1 next hi ⟨rfl, cs, K, hl⟩ hnx
  refine ⟨arr b n, _, _, rfl, ?_⟩
  by_cases hlt : i < n
  rotate_left
  · have hie : i = n := by omega
    subst hie
    exact bs_f (by simp) (k h1 cs K.le (K.at (.head _)) hl)
  refine bs_t (by simp; omega) ?_
  simp (disch := omega) only [W_plus]
  have hnat : Int.toNat (i : Int) = i := Int.toNat_natCast i
  rw [hnat]
  repeat' (first
    | (refine ex_ptrA ⟨by omega, by first | omega | (dsimp only; omega), ?_⟩)
    | ((((with_reducible apply Kn.wr); (assumption); ((focus ((repeat first | exact .head | apply Upd.tail); done))))); (first | omega | (simp only [lset_length]; omega)); (intro _ _ _)))
  refine markText_spec (by omega) fun s => ⟨s, rfl, ?_⟩
  refine ex_ptrA ⟨by omega, by first | omega | (dsimp only; omega), ?_⟩
  (((with_reducible apply Kn.wr); (assumption); ((focus ((repeat first | exact .head | apply Upd.tail); done)))))
  · first | omega | (simp only [lset_length]; omega)
  intro h2 K2 _
  have hni : ((i : Int) + 1) = ((i + 1 : Nat) : Int) := by omega
  have := hnx hlt _ _ ⟨rfl, _, K2, by first | exact hl | (simp only [lset_length]; exact hl)⟩
  have hke : k0 + (i : Int) * 9 + 1 + 1 + 1 + 1 + 1 + 1 + 1 + 1 + 1 = k0 + ((i + 1 : Nat) : Int) * 9 := by omega
  rw [hni, hke]; exact this
theorem markBindS_spec {h : Hp} {b n z : Nat} {cs : List Value} {k0 : Int} {R : Value → Hp → Prop} (f : h b = some (.inl ⟨cs, z, false⟩)) (hl : cs.length = n * 2) (h0 : 0 ≤ k0) (hk : k0 + n * 2 ≤ 1000000000000)
    (k : ∀ h' cs', (h.off b).le h' → h' b = some (.inl ⟨cs', z, false⟩) → cs'.length = n * 2 → R (I (k0 + n * 2)) h') : c_laws_markBindS #[(arr b n).v, I k0] h R := by
  apply R_laws_markBindS
  unfold F_laws_markBindS
  refine loop_up n (fun i vs h' => vs = [(arr b n).v, I (k0 + i * 2), I i] ∧ ∃ cs, Kn (h.off b) h' [(b, .inl ⟨cs, z, false⟩)] ∧ cs.length = n * 2) ⟨by simp, cs, ?_, hl⟩ ?_
  · exact ⟨off_le _ _, fun e he => by rw [List.mem_singleton.1 he]; exact f, fun e he => by rw [List.mem_singleton.1 he]; exact off_at _ _, by simp⟩
  clear f hl cs
  rintro i _ h1 next hi ⟨rfl, cs, K, hl⟩ hnx
  refine ⟨arr b n, _, _, rfl, ?_⟩
  by_cases hlt : i < n
  rotate_left
  · have hie : i = n := by omega
    subst hie
    exact bs_f (by simp) (k h1 cs K.le (K.at (.head _)) hl)
  refine bs_t (by simp; omega) ?_
  simp (disch := omega) only [W_plus]
  have hnat : Int.toNat (i : Int) = i := Int.toNat_natCast i
  rw [hnat]
  repeat' (first
    | (refine ex_ptrA ⟨by omega, by first | omega | (dsimp only; omega), ?_⟩)
    | ((((with_reducible apply Kn.wr); (assumption); ((focus ((repeat first | exact .head | apply Upd.tail); done))))); (first | omega | (simp only [lset_length]; omega)); (intro _ _ _)))
  have hni : ((i : Int) + 1) = ((i + 1 : Nat) : Int) := by omega
  have hke : k0 + (i : Int) * 2 + 1 + 1 = k0 + ((i + 1 : Nat) : Int) * 2 := by omega
  rw [hni, hke]
  refine hnx hlt _ _ ⟨rfl, _, by assumption, by first | exact hl | (simp only [lset_length]; exact hl)⟩
theorem markIntS_row {h : Hp} {b n z : Nat} {cs : List Value} {k0 : Int} {R : Value → Hp → Prop} (f : h b = some (.inl ⟨cs, z, false⟩)) (hl : cs.length = n) (h0 : 0 ≤ k0) (hk : k0 + n ≤ 1000000000000)
    (k : ∀ h' cs', (h.off b).le h' → h' b = some (.inl ⟨cs', z, false⟩) → cs'.length = n → R (I (k0 + n)) h') : c_laws_markIntS #[(arr b n).v, I k0] h R := by
  apply R_laws_markIntS
  unfold F_laws_markIntS
  refine loop_up n (fun i vs h' => vs = [(arr b n).v, I (k0 + i), I i] ∧ ∃ cs, Kn (h.off b) h' [(b, .inl ⟨cs, z, false⟩)] ∧ cs.length = n) ⟨by simp, cs, ?_, hl⟩ ?_
  · exact ⟨off_le _ _, fun e he => by rw [List.mem_singleton.1 he]; exact f, fun e he => by rw [List.mem_singleton.1 he]; exact off_at _ _, by simp⟩
  clear f hl cs
  rintro i _ h1 next hi ⟨rfl, cs, K, hl⟩ hnx
  refine ⟨arr b n, _, _, rfl, ?_⟩
  by_cases hlt : i < n
  rotate_left
  · have hie : i = n := by omega
    subst hie
    exact bs_f (by simp) (k h1 cs K.le (K.at (.head _)) hl)
  refine bs_t (by simp; omega) ?_
  simp (disch := omega) only [W_plus]
  have hnat : Int.toNat (i : Int) = i := Int.toNat_natCast i
  rw [hnat]
  repeat' (first
    | (refine ex_ptrA ⟨by omega, by first | omega | (dsimp only; omega), ?_⟩)
    | ((((with_reducible apply Kn.wr); (assumption); ((focus ((repeat first | exact .head | apply Upd.tail); done))))); (first | omega | (simp only [lset_length]; omega)); (intro _ _ _)))
  have hni : ((i : Int) + 1) = ((i + 1 : Nat) : Int) := by omega
  have hke : k0 + (i : Int) + 1 = k0 + ((i + 1 : Nat) : Int) := by omega
  rw [hke, hni]
  refine hnx hlt _ _ ⟨rfl, _, by assumption, by first | exact hl | (simp only [lset_length]; exact hl)⟩
theorem markModel_spec {g h : Hp} {X : List (Nat × Blk)} {m : ModelP} {bn bi bx bb bh : Nat} {R : Value → Hp → Prop} (K : Kn g h (modL m bn bi bx bb bh ++ X)) (hm : Small m)
    (k : ∀ h' L', L'.map Prod.fst = [bn, bi, bx, bb, bh] → Kn g h' (L' ++ X) → ∀ r : Int, 0 ≤ r → R (I r) h') : c_laws_markModel #[modelV (modM m bn bi bx bb bh), I 1] h R := by
  apply R_laws_markModel
  unfold F_laws_markModel
  have g1 := hm.nodes
  have g2 := hm.inits
  have g3 := hm.nexts
  have g4 := hm.bads
  have g5 := hm.holds
  refine alloc_of fun b8 h1 hb8 l1 f8 => ?_
  have K1 := K.cons hb8 l1 f8
  unfold modL at K1
  simp only [List.cons_append, List.nil_append] at K1
  clear K l1 hb8
  (refine rdx_ ?_)
  refine markNodeS_spec (K1.at (.tail _ (.head _))) (flat_len (m := 9) (fun _ => rfl) _) (by omega) (by omega) fun h2 c2 l2 f2 hc2 => ⟨_, rfl, ?_⟩
  have K2 := K1.off (.tail .head) l2 f2
  (refine kr_ ?_)
  refine markBindS_spec (K2.at (.tail _ (.tail _ (.head _)))) (flat_len (m := 2) (fun _ => rfl) _) (by omega) (by omega) fun h3 c3 l3 f3 hc3 => ⟨_, rfl, ?_⟩
  have K3 := K2.off (.tail (.tail .head)) l3 f3
  (refine kr_ ?_)
  refine markBindS_spec (K3.at (.tail _ (.tail _ (.tail _ (.head _))))) (flat_len (m := 2) (fun _ => rfl) _) (by omega) (by omega) fun h4 c4 l4 f4 hc4 => ⟨_, rfl, ?_⟩
  have K4 := K3.off (.tail (.tail (.tail .head))) l4 f4
  (refine kr_ ?_)
  refine markIntS_row (K4.at (.tail _ (.tail _ (.tail _ (.tail _ (.head _)))))) (by simp) (by omega) (by omega) fun h5 c5 l5 f5 hc5 => ⟨_, rfl, ?_⟩
  have K5 := K4.off (.tail (.tail (.tail (.tail .head)))) l5 f5
  (refine kr_ ?_)
  refine markIntS_row (K5.at (.tail _ (.tail _ (.tail _ (.tail _ (.tail _ (.head _))))))) (by simp) (by omega) (by omega) fun h6 c6 l6 f6 hc6 => ⟨_, rfl, ?_⟩
  have K6 := K5.off (.tail (.tail (.tail (.tail (.tail .head))))) l6 f6
  have nd := K6.nd
  rw [List.map_cons, List.nodup_cons] at nd
  refine k h6 [(bn, .inl ⟨c2, m.nodes.length * 9, false⟩), (bi, .inl ⟨c3, m.inits.length * 2, false⟩), (bx, .inl ⟨c4, m.nexts.length * 2, false⟩), (bb, .inl ⟨c5, m.bads.length * 1, false⟩), (bh, .inl ⟨c6, m.holds.length * 1, false⟩)] rfl (K6.sub (L' := [(bn, .inl ⟨c2, m.nodes.length * 9, false⟩), (bi, .inl ⟨c3, m.inits.length * 2, false⟩), (bx, .inl ⟨c4, m.nexts.length * 2, false⟩), (bb, .inl ⟨c5, m.bads.length * 1, false⟩), (bh, .inl ⟨c6, m.holds.length * 1, false⟩)] ++ X) (fun e he => .tail _ he) nd.2) _ (by omega)

theorem toldP_len' (v : Int) (f : Nat → Bool) : (toldP v f).ns.length ≤ 600 := by
  unfold toldP toldD
  split
  · split
    · simp [noBd]
    · rename_i r h; split at h
      · cases h
      · cases h; dsimp only; omega
  · simp [noBd]
theorem badSet_len (m : ModelP) : (badSet m).ns.length ≤ 600 := by unfold badSet; split <;> first | exact toldP_len' _ _ | simp [noBd]


set_option maxHeartbeats 1000000 in
theorem FnExactBadSet_spec {h : Hp} {M : MSl} {m : ModelP} {R : Value → Hp → Prop} (hs : ModelS h M m) (hsz : ∀ n ∈ m.nodes, n.name.size ≤ 9223372036854775807)
    (k : R (.bool true) h) : c_laws_FnExactBadSet #[modelV M] h R := by
  refine ACalls.drop (R_laws_FnExactBadSet ?_)
  unfold F_laws_FnExactBadSet
  have K0 := Kn.nil h
  (with_reducible apply Kn.al); (assumption); (intro b7 h1 K1 l1 hb7)
  clear K0 hb7
  repeat' (refine kr_ ?_)
  refine szModel_spec (hs.mono K1.le) hsz fun r hr => ⟨_, rfl, bsplit_of (fun e => ⟨_, K1.le, k⟩) (fun e => ?_)⟩
  have hm : Small m := (hr.resolve_left (of_decide_eq_false e)).2.2
  clear hr e r
  repeat' (refine kr_ ?_)
  refine toModel_spec (hs.mono K1.le) hm fun n1 i1 x1 d1 e1 h2 KA => ⟨_, _, _, _, _, rfl, ?_⟩
  have KA' : Kn h1 h2 (modL m n1 i1 x1 d1 e1 ++ []) := by rw [List.append_nil]; exact KA
  refine spec_BadSet_spec (mod_S KA' hm) hm fun w0 h3 l3 ow => ⟨_, _, _, _, rfl, ?_⟩
  have hI : ∀ {h' : Hp} {M' : MSl} {R' : Value → Hp → Prop}, ModelS h' M' m → (∀ t h'', h'.le h'' → Own (h''.sub h') t 3 (ndCells (badSet m).ns) → R' (setV (badSet m) t) h'') → c_impl_BadSet #[modelV M'] h' R' := fun a b => impl_BadSet_spec a hm b
  have hlen := badSet_len m
  generalize badSet m = B at *
  have K3 := K1.mono (Hp.le_trans KA.le l3)
  clear KA' K1
  (with_reducible apply Kn.al); (exact K3); (intro b41 h4 K4 l4 hb41)
  (((with_reducible apply Kn.wr); (assumption); ((focus ((repeat first | exact .head | apply Upd.tail); done)))))
  · exact of_decide_eq_true rfl
  intro h5 K5 kp5
  have l35 : h3.le h5 := le_keep hb41 l4 kp5
  have ow5 : Own h5 w0 3 (ndCells B.ns) := (ow.mono (sub_le _ _)).mono l35
  have f7 := K5.at (.tail _ (.head _))
  have f41 := K5.at (.head _)
  have hs5 := hs.mono K5.le
  have l05 := K5.le
  clear ow kp5 l35 hb41 l4 K4 K3 l3 KA h4 h3 l1
  repeat' (refine kr_ ?_)
  refine toModel_spec hs5 hm fun bn bi bx bb bh h6 KB => ⟨_, _, _, _, _, rfl, ?_⟩
  clear K5
  (with_reducible apply Kn.al); (exact KB); (intro b59 h7 K7 l7 hb59)
  (((with_reducible apply Kn.wr); (assumption); ((focus ((repeat first | exact .head | apply Upd.tail); done)))))
  · exact of_decide_eq_true rfl
  intro h8 K8 _
  clear K7 KB l7 hb59
  repeat' (refine kr_ ?_)
  have nd8 := K8.nd
  rw [List.map_cons, List.nodup_cons] at nd8
  have K8' : Kn h5 h8 (modL m bn bi bx bb bh ++ []) := K8.sub (fun e he => .tail _ (by rwa [List.append_nil] at he)) (by rw [List.append_nil]; exact nd8.2)
  refine hI (mod_S K8' hm) fun g0 h9 l9 og => ⟨_, _, _, _, rfl, ?_⟩
  obtain ⟨X, oX, K9⟩ := K8.addOwn l9 og
  have hgn : g0.n ≤ 600 := by have := og.1; rw [ndCells_len] at this; omega
  clear K8 K8' nd8 og l9
  (with_reducible apply Kn.al); (exact K9); (intro b76 h10 K10 l10 hb76)
  (((with_reducible apply Kn.wr); (assumption); ((focus ((repeat first | exact .head | apply Upd.tail); done)))))
  · exact of_decide_eq_true rfl
  intro h11 K11 _
  clear K10 K9 l10 hb76
  obtain ⟨KM, KF⟩ := Kn.split (A := [(b76, .inl ⟨[I B.v, g0.v, I B.r], 3, false⟩), (b59, .inl ⟨modelC (modM m bn bi bx bb bh), 5, false⟩)]) (B := modL m bn bi bx bb bh ++ X) K11
  generalize h11.wo ((modL m bn bi bx bb bh ++ X).map Prod.fst) = gB at *
  have f76 := KF.at (.head _)
  have f59 := KF.at (.tail _ (.head _))
  replace f7 := KF.le _ _ f7
  replace f41 := KF.le _ _ f41
  have x59 := nz_some f59
  have x7 := nz_some f7
  have x76 := nz_some f76
  have x41 := nz_some f41
  have hsB := hs5.mono KF.le
  have owB := ow5.mono KF.le
  have l0B := Hp.le_trans l05 KF.le
  clear KF K11 ow5 hs5 l05
  refine joinP_of (fun J => J false h11) ?_ (fun J hJ => ?_)
  rotate_left
  · repeat' (refine kr_ ?_)
    refine eqBdd_spec (oX.own KM).slc (owB.mono KM.le).slc ⟨_, rfl, bs_f (by simp) ?_⟩
    simpa using hJ
  refine bs_f rfl ?_
  repeat' (refine kr_ ?_)
  refine toModel_spec (hsB.mono KM.le) hm fun n2 i2 x2 d2 e2 h12 KC => ⟨_, _, _, _, _, rfl, ?_⟩
  have KC' : Kn h11 h12 (modL m n2 i2 x2 d2 e2 ++ []) := by rw [List.append_nil]; exact KC
  have KM12 := KM.mono KC.le
  repeat' (refine kr_ ?_)
  refine eqModel_same (mod_S KM12 hm) (mod_S KC' hm) ⟨_, rfl, bs_f rfl ?_⟩
  clear KC' KC KM
  repeat' (refine kr_ ?_)
  refine markModel_spec KM12 hm fun h13 L' hL' KM13 r hr => ⟨_, rfl, ?_⟩
  clear KM12
  refine joinP_of (fun J => J false h13) ?_ (fun J hJ => ?_)
  rotate_left
  · refine bs_f (by simp; omega) ?_
    repeat' (refine kr_ ?_)
    refine eqBdd_spec (oX.own KM13).slc (owB.mono KM13.le).slc ⟨_, rfl, bs_f (by simp) ?_⟩
    simpa using hJ
  refine bs_f rfl ?_
  repeat' (refine kr_ ?_)
  refine markBdd_spec (oX.own KM13) (by omega) (by omega) fun h14 l14 o14 => ⟨_, rfl, ?_⟩
  obtain ⟨X', oX', KM14⟩ := oX.mark KM13 l14 o14
  clear l14 KM13
  repeat' (refine kr_ ?_)
  refine heldBdd_spec o14.slc (by omega) (by omega) ⟨_, rfl, bs_f (by simp; omega) (bs_f (by simp) ?_)⟩
  repeat' (refine kr_ ?_)
  refine toModel_spec (hsB.mono KM14.le) hm fun n3 i3 x3 d3 e3 h15 KD => ⟨_, _, _, _, _, rfl, ?_⟩
  have KD' : Kn h14 h15 (modL m n3 i3 x3 d3 e3 ++ []) := by rw [List.append_nil]; exact KD
  refine hI (mod_S KD' hm) fun w1 h16 l16 ow1 => ⟨_, _, _, _, rfl, ?_⟩
  have KM16 := KM14.mono (Hp.le_trans KD.le l16)
  clear KD' KM14
  (with_reducible apply Kn.al); (exact KM16); (intro b183 h17 K17 l17 hb183)
  (((with_reducible apply Kn.wr); (assumption); ((focus ((repeat first | exact .head | apply Upd.tail); done)))))
  · exact of_decide_eq_true rfl
  intro h18 K18 kp18
  have l1618 : h16.le h18 := le_keep hb183 l17 kp18
  have K18' : Kn gB h18 (((b183, .inl ⟨[I B.v, w1.v, I B.r], 3, false⟩) :: L') ++ X') := K18
  clear KM16 K17
  refine joinP_of (fun J => J false h18) ?_ (fun J hJ => ?_)
  rotate_left
  · repeat' (refine kr_ ?_)
    refine eqBdd_spec ((ow1.mono (sub_le _ _)).mono l1618).slc (owB.mono K18.le).slc ⟨_, rfl, bs_f (by simp) ?_⟩
    simpa using hJ
  refine bs_f rfl ?_
  repeat' (refine kr_ ?_)
  refine heldBdd_spec (oX'.own K18').slc (by omega) (by omega) ⟨_, rfl, bs_f (by simp; omega) (bs_f (by simp) ⟨_, Hp.le_trans l0B K18.le, k⟩)⟩


theorem list9 {cs : List Value} (h : cs.length = 9) : ∃ a b c d e f g i j, cs = [a, b, c, d, e, f, g, i, j] := by
  match cs, h with
  | [a, b, c, d, e, f, g, i, j], _ => exact ⟨a, b, c, d, e, f, g, i, j, rfl⟩
theorem list2 {cs : List Value} (h : cs.length = 2) : ∃ a b, cs = [a, b] := by
  match cs, h with
  | [a, b], _ => exact ⟨a, b, rfl⟩
theorem Got.flat {P : Program} {W : World} {t e : TypeId} {v : Value} {α : Type} {f : α → List Value} {m : Nat} {p : α → Prop} (hf : ∀ x, (f x).length = m) (hpos : 0 < m) (ht : P.underlying t = some (.slice e)) (hsz : P.cellsOf e = m)
    (hg : ∀ ds, Got P W e ds → ∃ x, ds = f x ∧ p x) (g : Got P W t [v]) : ∃ (s : Sl) (l : List α), v = s.v ∧ s.n ≤ s.c ∧ SlC (hW W) s m (l.flatMap f) ∧ ∀ x ∈ l, p x := by
  obtain ⟨s, hs, hm, hlc, h⟩ := Got.slice ht hsz hpos g
  simp only [List.cons.injEq, and_true] at hs
  rcases h with h | ⟨b, o, ha, h⟩
  · exact ⟨s, [], hs, hlc, ⟨hm, by simp [h], .inl h⟩, by simp⟩
  obtain ⟨xs, hl, hx⟩ := list_of (p := fun i (x : α) => (∀ (j : Nat) v, (f x)[j]? = some v → Hp.cell (hW W) b (o + i * m + j) = some v) ∧ p x) s.n fun i hi => by
    obtain ⟨ds, hd, hgd, hc⟩ := h i hi
    obtain ⟨x, rfl, hp⟩ := hg ds hgd
    exact ⟨x, hc, hp⟩
  refine ⟨s, xs, hs, hlc, ⟨hm, by rw [flat_len hf, hl], .inr ⟨b, o, ha, ?_⟩⟩, ?_⟩
  · intro i v hv
    have hi : i < (xs.flatMap f).length := (List.getElem?_eq_some_iff.1 hv).1
    rw [flat_len hf] at hi
    have hq : i / m < xs.length := by rw [Nat.div_lt_iff_lt_mul hpos]; exact hi
    have hr : i % m < m := Nat.mod_lt _ hpos
    have he : i = i / m * m + i % m := by rw [Nat.mul_comm]; exact (Nat.div_add_mod _ _).symm
    rw [he, flat_get hf xs (i / m) xs[i / m] (i % m) (List.getElem?_eq_getElem hq) hr] at hv
    have := (hx (i / m) hq).1 _ _ hv
    rw [he, ← Nat.add_assoc]; exact this
  · intro x hxm
    obtain ⟨i, hi, rfl⟩ := List.getElem_of_mem hxm
    exact (hx i hi).2

/-- A row of truth values, place by place. -/
def tb (n : Nat) (T : Nat → Bool) : List Value := (List.range n).map fun i => .bool (T i)

/-- Rows of truth values, one by one. -/
def LayS (h : Hp) (s : Sl) (n m : Nat) (L : Nat → Nat → Bool) : Prop := ∃ ts : List Sl, ts.length = m ∧ SlC h s 1 (ts.map Sl.v) ∧ ∀ (j : Nat) (t : Sl), ts[j]? = some t → BoolT h t n (L j)
theorem LayS.mono {h h' : Hp} {s : Sl} {n m : Nat} {L : Nat → Nat → Bool} (l : h.le h') (e : LayS h s n m L) : LayS h' s n m L := by
  obtain ⟨ts, e1, e2, e3⟩ := e
  exact ⟨ts, e1, e2.mono l, fun j t ht => (e3 j t ht).mono l⟩
theorem LayS.len {h : Hp} {s : Sl} {n m : Nat} {L : Nat → Nat → Bool} (e : LayS h s n m L) : s.n = m := by
  obtain ⟨ts, e1, e2, _⟩ := e
  have := e2.2.1
  simp at this; omega
theorem LayS.get {h : Hp} {s : Sl} {n m i : Nat} {L : Nat → Nat → Bool} (e : LayS h s n m L) (hi : i < m) :
    ∃ b o t, s.a = some (Addr.mk b o none) ∧ (i : Int) < (s.n : Int) ∧ Hp.cell h b (o + Int.toNat (i : Int) * 1) = some (Sl.v t) ∧ BoolT h t n (L i) := by
  have hl := e.len
  obtain ⟨ts, e1, e2, e3⟩ := e
  obtain ⟨t, ht⟩ : ∃ t, ts[i]? = some t := ⟨_, List.getElem?_eq_getElem (by omega)⟩
  obtain ⟨b, o, ha, hc⟩ := SlC.get e2 (by omega)
  refine ⟨b, o, t, ha, by omega, ?_, e3 i t ht⟩
  rw [Int.toNat_natCast, Nat.mul_one]
  exact hc i _ (by simp [ht])

/-- What a list of one's own that grows adds to what is known. -/
def GrowX (X : List (Nat × Blk)) (s : Sl) (sz : Nat) (cs : List Value) : Prop :=
  cs.length = s.n * sz ∧ s.n ≤ s.c ∧ ((X = [] ∧ s = ⟨none, 0, 0⟩ ∧ cs = []) ∨ ∃ b, s.a = some ⟨b, 0, none⟩ ∧ X = [(b, .inl ⟨cs, s.c * sz, false⟩)])
theorem GrowX.buf {X : List (Nat × Blk)} {h : Hp} {s : Sl} {sz : Nat} {cs : List Value} (o : GrowX X s sz cs) (m : ∀ e ∈ X, h e.1 = some e.2) : Buf h s sz cs := by
  refine ⟨o.1, o.2.1, ?_⟩
  rcases o.2.2 with ⟨_, rfl, _⟩ | ⟨b, ha, rfl⟩
  · exact .inl ⟨rfl, rfl, rfl⟩
  · exact .inr ⟨b, ha, m _ (.head _)⟩
theorem GrowX.slc {X A L : List (Nat × Blk)} {g h : Hp} {s : Sl} {sz : Nat} {cs : List Value} (o : GrowX X s sz cs) (K : Kn g h (A ++ (X ++ L))) (hn : s.n ≤ 9223372036854775807) : SlC h s sz cs :=
  (o.buf fun e he => K.mem e (List.mem_append_right _ (List.mem_append_left _ he))).slc_of hn

/-- A table's slices. -/
structure MapQ where
  hs : Sl
  es : Sl
  ns : Sl
  fs : Sl
  bs : Sl
/-- A table in memory. -/
def MapS (h : Hp) (q : MapQ) (σ : SysP) : Prop := BoolT h q.hs (2 ^ (σ.n + σ.k)) σ.hold ∧ BoolT h q.es (2 ^ (σ.n + σ.k)) σ.ends ∧ IntT h q.ns (2 ^ (σ.n + σ.k)) σ.next ∧
  (∃ fm, fm + σ.fixed = 2 ^ σ.n - 1 ∧ IntS h q.fs (VL (freeL fm))) ∧ BoolT h q.bs (2 ^ σ.n) σ.begins
theorem MapS.mono {h h' : Hp} {q : MapQ} {σ : SysP} (l : h.le h') (e : MapS h q σ) : MapS h' q σ := by
  obtain ⟨a, b, c, ⟨fm, d1, d2⟩, f⟩ := e
  exact ⟨a.mono l, b.mono l, c.mono l, ⟨fm, d1, d2.mono l⟩, f.mono l⟩

end Go.Lead
