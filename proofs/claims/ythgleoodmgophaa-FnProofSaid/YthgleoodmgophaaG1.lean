/- Clauses that grow in a struct of one's own, and the reader of drawn inputs. -/
import Derived.Test.YthgleoodmgophaaD1
namespace Go.Lead
open Go
set_option linter.unusedSimpArgs false
set_option linter.unusedVariables false

/-- A list of lists that grows in a struct of one's own, its pieces lying in a heap that is kept. -/
structure GrownD (g h : Hp) (bw : Nat) (v : Int) (t : Sl) (xss : List (List Int)) : Prop where
  buf : ∃ ts : List Sl, Buf h t 1 (ts.map Sl.v) ∧ ts.length = xss.length ∧ ∀ (i : Nat) (h1 : i < ts.length) (h2 : i < xss.length), IntS g ts[i] xss[i]
  le : g.le (h.offS t)
  row : h bw = some (.inl ⟨[I v, t.v], 2, false⟩)
  new : g bw = none
  own : ∀ a, t.a = some a → a.block ≠ bw
theorem offS_some {h : Hp} {t : Sl} {c : Nat} {x : Blk} (e : (h.offS t) c = some x) : h c = some x ∧ ∀ a, t.a = some a → a.block ≠ c := by
  refine ⟨offS_le _ _ _ _ e, fun a ha hac => ?_⟩
  subst hac
  simp [Hp.offS, ha, Hp.off, Hp.set] at e
theorem GrownD.keep {g h : Hp} {bw : Nat} {v : Int} {t : Sl} {xss : List (List Int)} (e : GrownD g h bw v t xss) : g.le h := Hp.le_trans e.le (offS_le _ _)
theorem GrownD.len {g h : Hp} {bw : Nat} {v : Int} {t : Sl} {xss : List (List Int)} (e : GrownD g h bw v t xss) : t.n = xss.length := by
  obtain ⟨ts, hb, h1, _⟩ := e.buf
  have := hb.1; simp at this; omega
theorem GrownD.blk {g h : Hp} {bw : Nat} {v : Int} {t : Sl} {xss : List (List Int)} (e : GrownD g h bw v t xss) : ∀ a, t.a = some a → ∃ ts : List Sl, ∃ z, h a.block = some (.inl ⟨ts.map Sl.v, z, false⟩) := by
  intro a ha
  obtain ⟨ts, hb, _, _⟩ := e.buf
  rcases hb.2.2 with ⟨h0, _⟩ | ⟨b, hb1, hb2⟩
  · rw [h0] at ha; cases ha
  · rw [hb1] at ha; cases ha; exact ⟨ts, _, hb2⟩
theorem GrownD.intss {g h : Hp} {bw : Nat} {v : Int} {t : Sl} {xss : List (List Int)} (e : GrownD g h bw v t xss) (hl : xss.length ≤ 1048576) : IntSS (h.off bw) t xss := by
  have hn := e.len
  obtain ⟨ts, hb, h1, h2⟩ := e.buf
  have hb' : Buf (h.off bw) t 1 (ts.map Sl.v) := by
    refine ⟨hb.1, hb.2.1, hb.2.2.imp id ?_⟩
    rintro ⟨b, hb1, hb2⟩
    exact ⟨b, hb1, by rw [Hp.off, Hp.set_ne _ _ (e.own _ hb1)]; exact hb2⟩
  exact ⟨ts, h1, hb'.slc (by omega), fun i a b => (h2 i a b).mono (le_off e.new e.keep)⟩
theorem GrownD.start {h : Hp} {bw : Nat} {v : Int} (hb : h bw = none) : GrownD h (h.row bw [I v, .slice none 0 0] 2) bw v ⟨none, 0, 0⟩ [] :=
  ⟨⟨[], buf_nil _ _, rfl, fun i h1 => by simp at h1⟩, le_row _ _ hb, row_self .., hb, fun a ha => by cases ha⟩
/-- What is kept may be seen anew. -/
theorem GrownD.to {g h g' h' : Hp} {bw : Nat} {v v' : Int} {t : Sl} {xss : List (List Int)} (e : GrownD g h bw v t xss) (l : g.le g') (l' : g'.le (h'.offS t)) (hr : h' bw = some (.inl ⟨[I v', t.v], 2, false⟩))
    (hbuf : ∀ a, t.a = some a → h' a.block = h a.block) (hn : g' bw = none) : GrownD g' h' bw v' t xss := by
  obtain ⟨ts, hb, h1, h2⟩ := e.buf
  refine ⟨⟨ts, ⟨hb.1, hb.2.1, hb.2.2.imp id ?_⟩, h1, fun i a b => (h2 i a b).mono l⟩, l', hr, hn, e.own⟩
  rintro ⟨b, hb1, hb2⟩
  exact ⟨b, hb1, (hbuf _ hb1).trans hb2⟩
/-- A new row besides. -/
theorem GrownD.lit {g h : Hp} {bw b n : Nat} {v : Int} {t : Sl} {xss : List (List Int)} {cs : List Value} (e : GrownD g h bw v t xss) (hb : h b = none) : GrownD (g.row b cs n) (h.row b cs n) bw v t xss := by
  have gb : g b = none := none_of_le e.keep hb
  have nb := fresh_ne hb e.row
  have nt : ∀ a, t.a = some a → a.block ≠ b := fun a ha => by
    obtain ⟨ts, z, hx⟩ := e.blk a ha
    exact fresh_ne hb hx
  refine e.to (le_row _ _ gb) ?_ (by rw [row_ne _ _ nb]; exact e.row) (fun a ha => row_ne _ _ (nt a ha)) (by rw [row_ne _ _ nb]; exact e.new)
  intro c x hc
  by_cases h' : c = b
  · subst h'
    rw [offS_at nt, row_self]; rw [row_self] at hc; exact hc
  · rw [row_ne _ _ h'] at hc
    obtain ⟨h1, h2⟩ := offS_some (e.le _ _ hc)
    rw [offS_at h2, row_ne _ _ h']; exact h1
theorem GrownD.app {g h : Hp} {bw b : Nat} {v : Int} {t u : Sl} {xss : List (List Int)} {x : List Int} {K : Option Addr → Nat → Nat → Hp → Prop} (e : GrownD g h bw v t xss) (hl : xss.length ≤ 1048576) (hu : IntS g u x) (hb : h b = none)
    (k : ∀ (t' : Sl) (h' : Hp), h' bw = some (.inl ⟨[I v, t.v], 2, false⟩) → (h.offS t).le (h'.offS t') → GrownD g (h'.row bw [I v, t'.v] 2) bw v t' (xss ++ [x]) → K t'.a t'.n t'.c h') :
    aApp (h.row b [u.v] 1) t.a t.n t.c (some ⟨b, 0, none⟩) 1 1 24 K := by
  have l := le_row [u.v] 1 hb
  have hn := e.len
  obtain ⟨ts, hbuf, h1, h2⟩ := e.buf
  refine aApp_buf (hbuf.mono l) (by omega) (by omega) (by omega) ⟨b, 0, rfl, fun i v hi => ?_⟩ (news := [u.v]) rfl rfl ?_
  · cases i with
    | zero => simp at hi; subst hi; exact cell_row _ _ _ _ _
    | succ i => simp at hi
  intro t' h' hn' hb' hle _
  have hle' : (h.offS t).le (h'.offS t') := Hp.le_trans (offS_mono t l) hle
  obtain ⟨f, o⟩ := offS_keep hle' e.row e.own
  refine k t' h' f hle' ⟨⟨ts ++ [u], ?_, by simp [h1], ?_⟩, ?_, row_self .., e.new, o⟩
  · rw [List.map_append]
    refine ⟨hb'.1, hb'.2.1, hb'.2.2.imp id ?_⟩
    rintro ⟨c, hc, hcb⟩
    exact ⟨c, hc, by rw [row_ne _ _ (o _ hc)]; exact hcb⟩
  · intro i a c
    by_cases hi : i < ts.length
    · rw [List.getElem_append_left hi, List.getElem_append_left (by omega)]; exact h2 i hi (by omega)
    · have : i = ts.length := by simp at a; omega
      subst this
      simp only [List.getElem_append_right (Nat.le_refl _), Nat.sub_self, List.getElem_cons_zero]
      simp only [h1, List.getElem_append_right (Nat.le_refl _), Nat.sub_self, List.getElem_cons_zero]
      exact hu
  · intro c x hc
    obtain ⟨h3, h4⟩ := offS_some (hle' _ _ (e.le _ _ hc))
    have hcb : c ≠ bw := fun hh => by rw [hh, e.new] at hc; cases hc
    rw [offS_at h4, row_ne _ _ hcb]; exact h3

structure Rd (h : Hp) (B : Nat) (s : Sl) (bs : List Nat) (p : Nat) : Prop where
  row : h B = some (.inl ⟨[s.v, I p], 2, false⟩)
  byt : ByteS (h.off B) s bs
theorem Rd.next {h : Hp} {B : Nat} {s : Sl} {bs : List Nat} {p : Nat} (e : Rd h B s bs p) (q : Nat) : Rd (h.row B [s.v, I q] 2) B s bs q := ⟨row_self .., by rw [off_row]; exact e.byt⟩
theorem Rd.to {h h' : Hp} {B : Nat} {s : Sl} {bs : List Nat} {p : Nat} (e : Rd h B s bs p) (l : h.le h') : Rd h' B s bs p := ⟨l _ _ e.row, e.byt.mono (off_mono _ l)⟩

theorem xorW_small {a b : Nat} (ha : a < 4611686018427387904) (hb : b < 4611686018427387904) : ∃ c : Nat, xorW (a : Int) (b : Int) = c := by
  have := xorW_nat (a := a) (b := b) (by omega) (by omega)
  exact ⟨_, this⟩

theorem pick_spec {h : Hp} {B p : Nat} {s : Sl} {bs : List Nat} {n : Int} {R : Value → Hp → Prop} (e : Rd h B s bs p) (hp : p ≤ 1000000000) (hn : n ≤ 1000000000)
    (k : ∀ x : Nat, (1 ≤ n → (x : Int) < n) → (n < 1 → x = 0) → R (I x) (h.row B [s.v, I (p + 1 : Nat)] 2)) : c_spec_l17Rd_pick #[.pointer (some ⟨B, 0, none⟩), I n] h R := by
  apply R_spec_l17Rd_pick
  unfold F_spec_l17Rd_pick
  simp only [vm, cell_of e.row, mm, e.row, W_succ (n := p) (by omega)]
  have hb := e.byt.mono (off_le_row h B [s.v, I (p + 1 : Nat)] 2)
  have hl := hb.len
  have hbd := hb.bound
  refine ⟨by omega, ?_⟩
  refine joinP_of (fun J => J (decide (n < 1) || decide (bs.length = 0))) ?_ ?_
  rotate_left
  · intro J hJ
    refine bsplit_of (fun e => ?_) (fun e => ?_)
    · rw [e, Bool.true_or] at hJ; exact hJ
    · rw [e, Bool.false_or] at hJ
      have : ((s.n : Int) == 0) = decide (bs.length = 0) := by rw [hl, Bool.eq_iff_iff]; simp
      rw [this]; exact hJ
  refine bsplit_of (fun he => ?_) (fun he => ?_)
  · refine k 0 (fun h1 => by omega) (fun _ => rfl)
  have hn1 : 1 ≤ n := by simp at he; omega
  have hbn : 0 < bs.length := by
    have : bs.length ≠ 0 := by intro h; rw [h] at he; simp at he
    omega
  have hw : W (((p + 1 : Nat) : Int) - 1) = p := by rw [W_id (by omega) (by omega)]; omega
  obtain ⟨m, rfl⟩ : ∃ m : Nat, n = m := ⟨n.toNat, by omega⟩
  have fin : ∀ x : Nat, R (I (Int.tmod (x : Int) (m : Int))) (h.row B [s.v, I (p + 1 : Nat)] 2) := by
    intro x
    have e1 : Int.tmod (x : Int) (m : Int) = ((x % m : Nat) : Int) := by rw [Int.ofNat_tmod]
    rw [e1]
    have : x % m < m := Nat.mod_lt _ (by omega)
    exact k (x % m) (fun _ => by omega) (fun h => by omega)
  simp only [hw, hl]
  refine bsplit_of (fun hlt => ?_) (fun hlt => ?_)
  · have hlt' : p < bs.length := by simp at hlt; omega
    obtain ⟨b, o, ha, hc, hx⟩ := hb.at hlt'
    simp only [vm, ha, hc]
    refine ⟨by omega, ?_⟩
    rw [if_neg (by omega), W_nat (by omega)]
    exact fin _
  · have hq : ∀ q : Nat, Int.tmod (q : Int) (bs.length : Int) = ((q % bs.length : Nat) : Int) := fun q => by rw [Int.ofNat_tmod]
    have hlt2 : ∀ q : Nat, q % bs.length < bs.length := fun q => Nat.mod_lt _ hbn
    have w1 : W (W ((p : Int) * 7) + 3) = ((p * 7 + 3 : Nat) : Int) := by
      rw [W_id (n := (p : Int) * 7) (by omega) (by omega), W_id (by omega) (by omega)]; omega
    obtain ⟨b, o, ha, hc, hx⟩ := hb.at (hlt2 p)
    obtain ⟨b', o', ha', hc', hy⟩ := hb.at (hlt2 (p * 7 + 3))
    rw [ha] at ha'; cases ha'
    have hdiv : Int.tdiv (p : Int) (bs.length : Int) = ((p / bs.length : Nat) : Int) := by rw [Int.ofNat_tdiv]
    have hdl : p / bs.length ≤ p := Nat.div_le_self _ _
    generalize hX : bs[p % bs.length]'(hlt2 p) = X at *
    generalize hY : bs[(p * 7 + 3) % bs.length]'(hlt2 _) = Y at *
    generalize hD : p / bs.length = D at *
    have tot : W (W (W (W (W (X : Int) * 131) + W (W (Y : Int) * 1117)) + W ((p : Int) * 29)) + W (W (D : Int) * 53)) = ((X * 131 + Y * 1117 + p * 29 + D * 53 : Nat) : Int) := by
      rw [W_nat (n := X) (by omega), W_nat (n := Y) (by omega), W_nat (n := D) (by omega), W_id (n := (X : Int) * 131) (by omega) (by omega), W_id (n := (Y : Int) * 1117) (by omega) (by omega),
        W_id (n := (p : Int) * 29) (by omega) (by omega), W_id (n := (D : Int) * 53) (by omega) (by omega), W_id (n := (X : Int) * 131 + (Y : Int) * 1117) (by omega) (by omega),
        W_id (n := (X : Int) * 131 + (Y : Int) * 1117 + (p : Int) * 29) (by omega) (by omega), W_id (by omega) (by omega)]
      omega
    have d64 : W (Int.tdiv (((X * 131 + Y * 1117 + p * 29 + D * 53 : Nat)) : Int) 64) = (((X * 131 + Y * 1117 + p * 29 + D * 53) / 64 : Nat) : Int) := by
      have : Int.tdiv (((X * 131 + Y * 1117 + p * 29 + D * 53 : Nat)) : Int) 64 = (((X * 131 + Y * 1117 + p * 29 + D * 53) / 64 : Nat) : Int) := by
        have := Int.ofNat_tdiv (X * 131 + Y * 1117 + p * 29 + D * 53) 64
        exact this.symm
      rw [this, W_nat (by omega)]
    obtain ⟨c, hcx⟩ := xorW_small (a := X * 131 + Y * 1117 + p * 29 + D * 53) (b := (X * 131 + Y * 1117 + p * 29 + D * 53) / 64) (by omega) (by omega)
    have hnz : ¬ ((bs.length : Nat) : Int) = 0 := by omega
    simp only [vm, w1, hq, hdiv, ha, hc, hc', hD, tot, d64, hcx]
    rw [if_neg hnz]
    refine ⟨by have := hlt2 p; omega, ?_⟩
    rw [if_neg hnz]
    refine ⟨by have := hlt2 (p * 7 + 3); omega, ?_⟩
    rw [if_neg hnz]
    have hm0 : ¬ (m : Int) = 0 := by omega
    rw [if_neg hm0]
    have := fin c
    simp only [true_and, and_self]
    exact this

theorem l17Open_spec {h : Hp} {s : Sl} {bs : List Nat} {R : Value → Hp → Prop} (hcap : s.n ≤ s.c) (hs : ByteS h s bs)
    (k : ∀ B s' bs', h B = none → Rd (h.row B [s'.v, I 0] 2) B s' bs' 0 → R (.pointer (some ⟨B, 0, none⟩)) (h.row B [s'.v, I 0] 2)) : c_spec_l17Open #[s.v] h R := by
  apply R_spec_l17Open
  unfold F_spec_l17Open
  have hl := hs.len
  refine bsplit_of (fun e => ?_) (fun e => ?_)
  · have e' : 2000 < s.n := by simp at e; omega
    obtain ⟨b, o, ha, hc⟩ := SlC.get hs.1 (by omega)
    refine ⟨by simp, by simp, by omega, .inr ⟨b, o, ha, ?_⟩⟩
    intro B hB
    refine setH_of fun h1 e1 => ?_
    subst e1
    have e0 : (if s.c = (Int.ofNat 0).toNat then o else o + (Int.ofNat 0).toNat * 1) = o := by split <;> simp
    rw [e0]
    refine k B ⟨some ⟨b, o, none⟩, 2000, s.c⟩ (bs.take 2000) hB ⟨row_self .., ?_⟩
    rw [off_row, off_none hB]
    refine ⟨⟨by simp, by simp; omega, .inr ⟨b, o, rfl, ?_⟩⟩, fun x hx => hs.2 x (List.mem_of_mem_take hx)⟩
    intro i v hv
    refine hc i v ?_
    rw [List.map_take, List.getElem?_take] at hv
    split at hv
    · exact hv
    · cases hv
  · intro B hB
    refine setH_of fun h1 e1 => ?_
    subst e1
    refine k B s bs hB ⟨row_self .., ?_⟩
    rw [off_row, off_none hB]; exact hs

/-- Writing the reader's row leaves what grows as it is. -/
theorem GrownD.poke {g h : Hp} {bw B p n : Nat} {v : Int} {t s : Sl} {xss : List (List Int)} {cs : List Value} (e : GrownD g h bw v t xss) (hB : h B = some (.inl ⟨[s.v, I p], 2, false⟩)) (gB : g B = none) :
    GrownD g (h.row B cs n) bw v t xss := by
  have n1 : bw ≠ B := ne_of_blk e.row hB (by intro h; simp [Sl.v] at h)
  have n2 : ∀ a, t.a = some a → a.block ≠ B := by
    intro a ha
    obtain ⟨ts, z, hx⟩ := e.blk a ha
    refine ne_of_blk hx hB ?_
    intro h
    simp only [Sum.inl.injEq, Row.mk.injEq] at h
    rcases ts with _ | ⟨t1, _ | ⟨t2, r⟩⟩
    · simp at h
    · simp at h
    · simp [Sl.v] at h
  refine e.to (Hp.le_refl _) ?_ (by rw [row_ne _ _ n1]; exact e.row) (fun a ha => row_ne _ _ (n2 a ha)) e.new
  intro c x hc
  obtain ⟨h1, h2⟩ := offS_some (e.le _ _ hc)
  have hcB : c ≠ B := fun hh => by rw [hh, gB] at hc; cases hc
  rw [offS_at h2, row_ne _ _ hcB]; exact h1
theorem Grown.poke {g h : Hp} {B p n : Nat} {o s : Sl} {xs : List Int} {cs : List Value} (e : Grown g h o xs) (hB : h B = some (.inl ⟨[s.v, I p], 2, false⟩)) (gB : g B = none) :
    Grown g (h.row B cs n) o xs := by
  have n2 : ∀ a, o.a = some a → a.block ≠ B := by
    intro a ha
    rcases e.buf.2.2 with ⟨h0, _⟩ | ⟨b, hb1, hb2⟩
    · rw [h0] at ha; cases ha
    · rw [hb1] at ha; cases ha
      refine ne_of_blk hb2 hB ?_
      intro h
      simp only [Sum.inl.injEq, Row.mk.injEq] at h
      rcases xs with _ | ⟨x, r⟩
      · simp at h
      · simp [Sl.v] at h
  refine ⟨⟨e.buf.1, e.buf.2.1, e.buf.2.2.imp id ?_⟩, ?_⟩
  · rintro ⟨b, hb1, hb2⟩
    exact ⟨b, hb1, by rw [row_ne _ _ (n2 _ hb1)]; exact hb2⟩
  · intro c x hc
    obtain ⟨h1, h2⟩ := offS_some (e.le _ _ hc)
    have hcB : c ≠ B := fun hh => by rw [hh, gB] at hc; cases hc
    rw [offS_at h2, row_ne _ _ hcB]; exact h1

end Go.Lead
