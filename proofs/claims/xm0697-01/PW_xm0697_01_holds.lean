import PyProof.Rows.All
import Wide.All
import OpenK.AllK
import Wide.FinOn
import PySem.Challenge.RW_xm0697_01
open PySem PySem.W PyProof.Rows
set_option Elab.async false
set_option linter.unusedVariables false
set_option maxRecDepth 100000
namespace Mine
def st (c : Int) : Int := if ¬ Builtin.bitAnd c 1 = 0 then Builtin.bitXor (c.fdiv (2 ^ Int.toNat 1)) 3988292384 else c.fdiv (2^Int.toNat 1)
def tab (b : Int) : Int := (rangeKs 0 4).foldl (fun c _ => st c) b
def lb (c : Int) : Int := if 2147483648 ≤ c then 2 * (Builtin.bitXor c 3988292384) + 1 else 2 * c
def led (c : Int) : Int := (rangeKs 0 4).foldl (fun c _ => lb c) c
theorem rk4 : rangeKs 0 4 = [0, 1, 2, 3] := by decide
theorem tab_def (b : Int) : tab b = st (st (st (st b))) := by
  unfold tab
  rw [rk4]
  simp only [List.foldl_cons, List.foldl_nil]
theorem led_def (c : Int) : led c = lb (lb (lb (lb c))) := by
  unfold led
  rw [rk4]
  simp only [List.foldl_cons, List.foldl_nil]

theorem nat_xa : ∀ a b : Nat, (a ^^^ b) + 2 * (a &&& b) = a + b := by
  intro a
  induction a using Nat.strongRecOn with
  | _ a ih =>
    intro b
    by_cases h0 : a = 0
    · subst h0; simp
    · have h := ih (a / 2) (by omega) (b / 2)
      have e1 : (a ^^^ b) / 2 = a / 2 ^^^ b / 2 := Nat.xor_div_two
      have e2 : (a &&& b) / 2 = a / 2 &&& b / 2 := Nat.and_div_two
      have e3 : (a ^^^ b) % 2 = (a + b) % 2 := by
        have h1 := @Nat.xor_mod_two_eq_one a b
        omega
      have e4 := @Nat.and_mod_two_eq_one a b
      omega
theorem xor_nat (a b : Nat) : Builtin.bitXor (a : Int) (b : Int) = ((a ^^^ b : Nat) : Int) := by
  rw [bitXor_and, bitAnd_pp (Int.natCast_nonneg a) (Int.natCast_nonneg b)]
  have h := nat_xa a b
  simp only [Int.toNat_natCast]
  omega
def stN (n : Nat) : Nat := if n % 2 = 1 then (n / 2) ^^^ 3988292384 else n / 2
def lbN (n : Nat) : Nat := if 2147483648 ≤ n then 2 * (n ^^^ 3988292384) + 1 else 2 * n
theorem st_nat (n : Nat) : st (n : Int) = (stN n : Int) := by
  have e : (n : Int).fdiv (2 ^ Int.toNat 1) = ((n / 2 : Nat) : Int) := by
    show (n : Int).fdiv 2 = _
    rw [Int.fdiv_eq_ediv_of_nonneg _ (by decide)]
    omega
  have x : Builtin.bitXor ((n / 2 : Nat) : Int) 3988292384 = ((n / 2 ^^^ 3988292384 : Nat) : Int) := xor_nat (n / 2) 3988292384
  unfold st stN
  rw [e, bitAnd_m1, x]
  by_cases h : n % 2 = 1
  · rw [if_pos (by omega), if_pos h]
  · rw [if_neg (by omega), if_neg h]
theorem lb_nat (n : Nat) : lb (n : Int) = (lbN n : Int) := by
  have x : Builtin.bitXor (n : Int) 3988292384 = ((n ^^^ 3988292384 : Nat) : Int) := xor_nat n 3988292384
  unfold lb lbN
  rw [x]
  by_cases h : 2147483648 ≤ n
  · rw [if_pos (by omega), if_pos h]; omega
  · rw [if_neg (by omega), if_neg h]; omega
theorem stN_xor (a b : Nat) : stN (a ^^^ b) = stN a ^^^ stN b := by
  have e1 : (a ^^^ b) / 2 = a / 2 ^^^ b / 2 := Nat.xor_div_two
  have h1 := @Nat.xor_mod_two_eq_one a b
  unfold stN
  rw [e1]
  by_cases ha : a % 2 = 1
  · by_cases hb : b % 2 = 1
    · rw [if_pos ha, if_pos hb, if_neg (by omega)]
      rw [Nat.xor_comm (b / 2), Nat.xor_assoc, ← Nat.xor_assoc 3988292384, Nat.xor_self, Nat.zero_xor]
    · rw [if_pos ha, if_neg hb, if_pos (by omega)]
      rw [Nat.xor_assoc, Nat.xor_assoc, Nat.xor_comm (b / 2)]
  · by_cases hb : b % 2 = 1
    · rw [if_neg ha, if_pos hb, if_pos (by omega), Nat.xor_assoc]
    · rw [if_neg ha, if_neg hb, if_neg (by omega)]
theorem stN_two (w : Nat) : stN (2 * w) = w := by
  unfold stN
  rw [if_neg (by omega)]
  omega
theorem stN_lt {n : Nat} (h : n < 2 ^ 32) : stN n < 2 ^ 32 := by
  unfold stN
  split
  · exact Nat.xor_lt_two_pow (by omega) (by decide)
  · omega
theorem lbN_stN {n : Nat} (h : n < 2 ^ 32) : lbN (stN n) = n := by
  unfold stN
  by_cases h1 : n % 2 = 1
  · rw [if_pos h1]
    have big : 2147483648 ≤ (n / 2 ^^^ 3988292384) := by
      apply Nat.not_lt.mp
      intro hl
      have h2 : (n / 2) ^^^ (n / 2 ^^^ 3988292384) < 2 ^ 31 := Nat.xor_lt_two_pow (by omega) hl
      rw [← Nat.xor_assoc, Nat.xor_self, Nat.zero_xor] at h2
      exact absurd h2 (by decide)
    unfold lbN
    rw [if_pos big, Nat.xor_assoc, Nat.xor_self, Nat.xor_zero]
    omega
  · rw [if_neg h1]
    unfold lbN
    rw [if_neg (by omega)]
    omega
def tabN (n : Nat) : Nat := stN (stN (stN (stN n)))
def ledN (n : Nat) : Nat := lbN (lbN (lbN (lbN n)))
theorem tab_nat (n : Nat) : tab (n : Int) = (tabN n : Int) := by
  rw [tab_def, st_nat, st_nat, st_nat, st_nat]; rfl
theorem led_nat (n : Nat) : led (n : Int) = (ledN n : Int) := by
  rw [led_def, lb_nat, lb_nat, lb_nat, lb_nat]; rfl
theorem tabN_lt {n : Nat} (h : n < 2 ^ 32) : tabN n < 2 ^ 32 := stN_lt (stN_lt (stN_lt (stN_lt h)))
theorem ledN_tabN {n : Nat} (h : n < 2 ^ 32) : ledN (tabN n) = n := by
  unfold ledN tabN
  rw [lbN_stN (stN_lt (stN_lt (stN_lt h))), lbN_stN (stN_lt (stN_lt h)), lbN_stN (stN_lt h), lbN_stN h]
theorem tabN_xor (a b : Nat) : tabN (a ^^^ b) = tabN a ^^^ tabN b := by
  unfold tabN
  rw [stN_xor, stN_xor, stN_xor, stN_xor]
theorem tabN_mul (v : Nat) : tabN (16 * v) = v := by
  unfold tabN
  have e : 16 * v = 2 * (2 * (2 * (2 * v))) := by omega
  rw [e, stN_two, stN_two, stN_two, stN_two]
theorem split_xor {v k : Nat} (hk : k < 16) : (16 * v) ^^^ k = 16 * v + k := by
  have h := nat_xa (16 * v) k
  have z : (16 * v) &&& k = 0 := by
    apply Nat.eq_of_testBit_eq
    intro i
    rw [Nat.testBit_and, Nat.zero_testBit]
    by_cases hi : i < 4
    · have e : (16 * v).testBit i = false := by
        have := Nat.testBit_two_pow_mul (i := 4) (a := v) (j := i)
        rw [show (2 : Nat) ^ 4 = 16 from rfl] at this
        rw [this]
        simp; omega
      rw [e, Bool.false_and]
    · have e : k.testBit i = false := Nat.testBit_lt_two_pow (Nat.lt_of_lt_of_le hk (by
        have : 2 ^ 4 ≤ 2 ^ i := Nat.pow_le_pow_right (by decide) (by omega)
        simpa using this))
      rw [e, Bool.and_false]
  omega
theorem tabN_above {v k : Nat} (hk : k < 16) : tabN (16 * v + k) = tabN k ^^^ v := by
  rw [← split_xor hk, tabN_xor, tabN_mul, Nat.xor_comm]

/- what the law asks, of ints -/
theorem tab_lo {k : Int} (h0 : 0 ≤ k) : 0 ≤ tab k := by
  obtain ⟨n, rfl⟩ := Int.eq_ofNat_of_zero_le h0
  rw [tab_nat]; exact Int.natCast_nonneg _
theorem tab_hi {k : Int} (h0 : 0 ≤ k) (h1 : k < 16) : tab k < 4294967296 := by
  obtain ⟨n, rfl⟩ := Int.eq_ofNat_of_zero_le h0
  rw [tab_nat]
  have h := tabN_lt (n := n) (by omega)
  omega
theorem led_tab {k : Int} (h0 : 0 ≤ k) (h1 : k < 16) : led (tab k) = k := by
  obtain ⟨n, rfl⟩ := Int.eq_ofNat_of_zero_le h0
  rw [tab_nat, led_nat, ledN_tabN (by omega)]
theorem led_above {k v : Int} (h0 : 0 ≤ k) (h1 : k < 16) (h2 : 0 ≤ v) (h3 : v < 2 ^ 28) : led (Builtin.bitXor (tab k) v) = 16 * v + k := by
  obtain ⟨n, rfl⟩ := Int.eq_ofNat_of_zero_le h0
  obtain ⟨m, rfl⟩ := Int.eq_ofNat_of_zero_le h2
  rw [tab_nat, xor_nat, led_nat, ← tabN_above (by omega), ledN_tabN (by omega)]
  omega
theorem tab_xor {k j : Int} (h0 : 0 ≤ k) (h2 : 0 ≤ j) : tab (Builtin.bitXor k j) = Builtin.bitXor (tab k) (tab j) := by
  obtain ⟨n, rfl⟩ := Int.eq_ofNat_of_zero_le h0
  obtain ⟨m, rfl⟩ := Int.eq_ofNat_of_zero_le h2
  rw [xor_nat, tab_nat, tab_nat, tab_nat, xor_nat, tabN_xor]
theorem xor_lo {k j : Int} (h0 : 0 ≤ k) (h2 : 0 ≤ j) : 0 ≤ Builtin.bitXor k j := by
  obtain ⟨n, rfl⟩ := Int.eq_ofNat_of_zero_le h0
  obtain ⟨m, rfl⟩ := Int.eq_ofNat_of_zero_le h2
  rw [xor_nat]; exact Int.natCast_nonneg _
theorem xor_hi {k j : Int} (h0 : 0 ≤ k) (h1 : k < 16) (h2 : 0 ≤ j) (h3 : j < 16) : Builtin.bitXor k j < 16 := by
  obtain ⟨n, rfl⟩ := Int.eq_ofNat_of_zero_le h0
  obtain ⟨m, rfl⟩ := Int.eq_ofNat_of_zero_le h2
  rw [xor_nat]
  have h : n ^^^ m < 2 ^ 4 := Nat.xor_lt_two_pow (by omega) (by omega)
  omega
end Mine

namespace Mine
theorem k1_start : ([] : List Int).length = ([] : List Int).length ∧ ([] : List Int) = ([] : List Int).map tab := ⟨rfl, rfl⟩
theorem k1_turn {pre fs : List Int} {k : Int} (h1 : fs.length = pre.length) (h2 : fs = pre.map tab) :
  (fs ++ [List.foldl (fun a' k' => if ¬Builtin.bitAnd a' 1 = 0 then Builtin.bitXor (a'.fdiv (2 ^ Int.toNat 1)) 3988292384 else a'.fdiv (2 ^ Int.toNat 1)) k (rangeKs 0 (4 - 0 : Int).toNat)]).length = (pre ++ [k]).length ∧
  fs ++ [List.foldl (fun a' k' => if ¬Builtin.bitAnd a' 1 = 0 then Builtin.bitXor (a'.fdiv (2 ^ Int.toNat 1)) 3988292384 else a'.fdiv (2 ^ Int.toNat 1)) k (rangeKs 0 (4 - 0 : Int).toNat)] = (pre ++ [k]).map tab := by
  refine ⟨by simp [h1], ?_⟩
  rw [h2, List.map_append]
  rfl
theorem tab8 : tab 8 = 3988292384 := by decide +kernel
section
variable {prog : Program} {w : World} {A : Around} {E : Value → Shared → Prop} {s : Shared}
theorem item_tab {value slice : PySem.Expr} {l : Addr} {vs : List Value} {ns : List Int} {k : Int} {u : Tok} {Q : Value → Shared → Prop} (hl : s.heap.IsList l vs.toArray) (hi : IntsAre vs ns)
    (he : ns = (rangeKs 0 (16 - 0 : Int).toNat).map tab) (h0 : 0 ≤ k) (h1 : k < 16) (h : ∀ t, 0 ≤ tab k → tab k < 2 ^ Int.toNat 32 → Q (.int (tab k) t) s)
    (hs : subscripted slice false (.ref l) (.int k u) = operate [.ref l, .int k u] (getItem (.ref l) (.int k u)) := by with_unfolding_all rfl) :
    wpAny (model prog w) A (subscriptTail value slice (.ref l) (.int k u)) Q E s := by
  have hlen : ns.length = 16 := by rw [he, List.length_map, rangeKs_length]; rfl
  refine item_anyK hl hi h0 (by omega) (by omega) ?_ hs
  have e : ns.getD k.toNat 0 = tab k := by
    obtain ⟨n, rfl⟩ := Int.eq_ofNat_of_zero_le h0
    have hn : n < 16 := by omega
    rw [he]
    simp [rangeKs, List.getD, hn]
  rw [e]
  have e2 : (2 : Int) ^ Int.toNat 32 = 4294967296 := by decide
  exact fun t => h t (tab_lo h0) (by rw [e2]; exact tab_hi h0 h1)
theorem item_tab8 {value slice : PySem.Expr} {l : Addr} {vs : List Value} {ns : List Int} {u : Tok} {Q : Value → Shared → Prop} (hl : s.heap.IsList l vs.toArray) (hi : IntsAre vs ns)
    (he : ns = (rangeKs 0 (16 - 0 : Int).toNat).map tab) (h : ∀ t, Q (.int 3988292384 t) s)
    (hs : subscripted slice false (.ref l) (.int 8 u) = operate [.ref l, .int 8 u] (getItem (.ref l) (.int 8 u)) := by with_unfolding_all rfl) :
    wpAny (model prog w) A (subscriptTail value slice (.ref l) (.int 8 u)) Q E s := by
  refine item_tab hl hi he (by decide) (by decide) ?_ hs
  rw [tab8]
  exact fun t _ _ => h t
theorem item_two0 {value slice : PySem.Expr} {l : Addr} {v x : Value} {u : Tok} {Q : Value → Shared → Prop} (hl : s.heap.IsList l #[v, x]) (h : Q v s)
    (hs : subscripted slice false (.ref l) (.int 0 u) = operate [.ref l, .int 0 u] (getItem (.ref l) (.int 0 u)) := by with_unfolding_all rfl) :
    wpAny (model prog w) A (subscriptTail value slice (.ref l) (.int 0 u)) Q E s :=
  tail_any hl.typeIs slot_list_getitem.lookup (wpAny_getItem_list hl (by decide) (by decide) (by rfl) h) hs
theorem item_two1 {value slice : PySem.Expr} {l : Addr} {v x : Value} {u : Tok} {Q : Value → Shared → Prop} (hl : s.heap.IsList l #[x, v]) (h : Q v s)
    (hs : subscripted slice false (.ref l) (.int 1 u) = operate [.ref l, .int 1 u] (getItem (.ref l) (.int 1 u)) := by with_unfolding_all rfl) :
    wpAny (model prog w) A (subscriptTail value slice (.ref l) (.int 1 u)) Q E s :=
  tail_any hl.typeIs slot_list_getitem.lookup (wpAny_getItem_list hl (by decide) (by decide) (by rfl) h) hs
theorem ne_eq {a b : Int} {t u : Tok} {Q : Value → Shared → Prop} (e : a = b) (h : Q (.bool false) s) : wpAny (model prog w) A (compareOp .NotEq (.int a t) (.int b u)) Q E s := by
  refine ne_int ?_
  have : (a != b) = false := by simp [e]
  rw [this]
  exact h

/- the law's loop -/
abbrev Two (l1 l2 : Addr) (vs : List Value) (n1 n2 : Nat) (a : Int) (ta : Nat) (b : Int) (tb : Nat) (own : List (Addr × Obj)) : List (Addr × Obj) :=
  (l1, W.listOf #[Value.int a ta, Value.int b tb] n1) :: (l2, W.listOf vs.toArray n2) :: own
def Led (l1 l2 : Addr) (vs : List Value) (n1 n2 : Nat) (c : Int × Nat × Int × Nat) : List (Addr × Obj) := Two l1 l2 vs n1 n2 c.1 c.2.1 c.2.2.1 c.2.2.2 []
def Word (_ : List Int) (c : Int × Nat × Int × Nat) : Prop := 0 ≤ c.1 ∧ 0 ≤ c.2.2.1 ∧ c.2.2.1 < 2147483647
def NoPs (_ : Int × Nat × Int × Nat) : List (PySem.Str × Value) := []
def NoFa (_ : Int × Nat × Int × Nat) : Prop := True
def Mid (h₀ : Heap) (L : Addr) (m : PySem.Str → Option Value) (l1 l2 : Addr) (vs : List Value) (n1 n2 : Nat) (own : List (Addr × Obj)) (s : Shared) (f : Flow) (s₂ : Shared) : Prop :=
  f = .next ∧ ∃ h' tk v t a ta b tb, s₂ = { s with heap := h', toks := tk } ∧ Fr h₀ L h' (fun y => if y = PySem.Str.ofString "above" then some (.int v t) else m y) ∧
    News h₀ L h' (Two l1 l2 vs n1 n2 a ta b tb own) ∧ (0 ≤ v ∧ v < 2 ^ 28) ∧ (0 ≤ a ∧ 0 ≤ b ∧ b < 2147483647)
theorem Mid.intro {h₀ : Heap} {L : Addr} {m : PySem.Str → Option Value} {l1 l2 : Addr} {vs : List Value} {n1 n2 : Nat} {own : List (Addr × Obj)} {s : Shared} {h' : Heap} {tk : Nat} {v : Int} {t : Tok} {a : Int} {ta : Nat} {b : Int} {tb : Nat}
    (F : Fr h₀ L h' (fun y => if y = PySem.Str.ofString "above" then some (.int v t) else m y)) (N : News h₀ L h' (Two l1 l2 vs n1 n2 a ta b tb own))
    (hv : 0 ≤ v ∧ v < 2 ^ 28) (hab : 0 ≤ a ∧ 0 ≤ b ∧ b < 2147483647) : Mid h₀ L m l1 l2 vs n1 n2 own s .next { s with heap := h', toks := tk } :=
  ⟨rfl, h', tk, v, t, a, ta, b, tb, rfl, F, N, hv, hab⟩
theorem law_loop {env : Env} {h₀ : Heap} {x : PySem.Str} {st : Stmt} {rest : List Stmt} {Q : Flow → Shared → Prop} {l1 l2 r : Addr} {vs : List Value} {n1 n2 : Nat} {a b : Int} {ta tb : Nat} {t₀ u₀ v₀ : Tok} {m₀ : PySem.Str → Option Value}
    (hh : A.handled = none) (hr : IsRange s.heap r 0 16 1 t₀ u₀ v₀) (F : Fr h₀ env.locals s.heap m₀)
    (N : News h₀ env.locals s.heap [(l1, W.listOf #[Value.int a ta, Value.int b tb] n1), (l2, W.listOf vs.toArray n2)]) (hab : 0 ≤ a ∧ 0 ≤ b ∧ b < 2147483647)
    (take : ∀ (a : Int) (ta : Nat) (b : Int) (tb : Nat) (k : Int) t (m : PySem.Str → Option Value) h tk own, OwnOff own [l1, l2] → 0 ≤ a → 0 ≤ b → b < 2147483647 →
      Fr h₀ env.locals h (fun y => if y = x then some (.int k t) else if y = PySem.Str.ofString "above" then m y else m₀ y) →
      News h₀ env.locals h (Two l1 l2 vs n1 n2 a ta b tb own) →
      wpAny (model prog w) A (exec st env) (Mid h₀ env.locals (fun y => if y = x then some (.int k t) else if y = PySem.Str.ofString "above" then m y else m₀ y) l1 l2 vs n1 n2 own { s with heap := h, toks := tk }) E { s with heap := h, toks := tk })
    (test : ∀ (a : Int) (ta : Nat) (b : Int) (tb : Nat) (v : Int) (tv : Tok) (k : Int) t (pre : List Int) (s' : Shared) h tk own, OwnOff own [l1, l2] → 0 ≤ a → 0 ≤ b → b < 2147483647 → 0 ≤ k → k < 16 → 0 ≤ v → v < 2 ^ 28 →
      Fr h₀ env.locals h (fun y => if y = PySem.Str.ofString "above" then some (.int v tv) else if y = x then some (.int k t) else m₀ y) →
      News h₀ env.locals h (Two l1 l2 vs n1 n2 a ta b tb own) → s'.gens = s.gens → s'.drawn = s.drawn → s'.os = s.os →
      wpAny (model prog w) A (execs rest env) (InvPostN h₀ env.locals (KstS (Led l1 l2 vs n1 n2) NoPs NoFa x [PySem.Str.ofString "above"] m₀ Word (pre ++ [k])) own [l1, l2] s' Q) E { s' with heap := h, toks := tk })
    (done : ∀ (a : Int) (ta : Nat) (b : Int) (tb : Nat) (u : PySem.Str → Option Value) h tk,
      Fr h₀ env.locals h (fun y => if y = x then u y else if y = PySem.Str.ofString "above" then u y else m₀ y) →
      News h₀ env.locals h (Two l1 l2 vs n1 n2 a ta b tb []) → Q .next { s with heap := h, toks := tk }) :
    wpAny (model prog w) A (pyIter (.ref r)) (fun it s₂ => LoopAtV prog w A h₀ env x (st :: rest) Q E it s₂) E s := by
  have hm : ∀ (u : PySem.Str → Option Value) (y : PySem.Str), (if [PySem.Str.ofString "above"].contains y then u y else m₀ y) = if y = PySem.Str.ofString "above" then u y else m₀ y := by
    intro u y
    by_cases h : y = PySem.Str.ofString "above"
    · simp [h]
    · simp [h]
  refine kst_range (n := 16) (Led l1 l2 vs n1 n2) NoPs NoFa [PySem.Str.ofString "above"] Word (a, ta, b, tb) hh hr (by decide) (by rfl) F N True.intro (fun _ hp => nomatch hp) hab ?_ ?_
  · rintro ⟨a, ta, b, tb⟩ pre k t u h tk own e hlt hoff _ ⟨h1, h2, h3⟩ F' N'
    simp only [NoPs, kstB, hm] at F'
    refine wpAny_execs_cons (wpAny_mono (take a ta b tb k t u h tk own hoff h1 h2 h3 F' N') ?_ fun _ _ x => x)
    rintro f s₂ ⟨rfl, h', tk', v, tv, a', ta', b', tb', rfl, F₂, N₂, ⟨hv0, hv1⟩, ⟨g1, g2, g3⟩⟩
    have em : (fun y => if y = PySem.Str.ofString "above" then some (Value.int v tv) else if y = x then some (.int k t) else if y = PySem.Str.ofString "above" then u y else m₀ y) =
        fun y => if y = PySem.Str.ofString "above" then some (.int v tv) else if y = x then some (.int k t) else m₀ y := by
      funext y
      by_cases hy : y = PySem.Str.ofString "above"
      · rw [if_pos hy, if_pos hy]
      · rw [if_neg hy, if_neg hy, if_neg hy]
    rw [em] at F₂
    exact test a' ta' b' tb' v tv k t pre { s with heap := h, toks := tk } h' tk' own hoff g1 g2 g3 (by omega) (by omega) hv0 hv1 F₂ N₂ rfl rfl rfl
  · rintro ⟨a, ta, b, tb⟩ u h tk _ _ F' N'
    simp only [NoPs, kstB, hm] at F'
    exact done a ta b tb u h tk F' N'
theorem law_end {h₀ : Heap} {L : Addr} {x : PySem.Str} {l1 l2 : Addr} {vs : List Value} {n1 n2 : Nat} {m₀ : PySem.Str → Option Value} {pre : List Int} {own : List (Addr × Obj)} {s₁ : Shared} {h' : Heap} {tk : Nat} {a b k v : Int} {ta tb : Nat} {t tv : Tok}
    (F : Fr h₀ L h' (fun y => if y = PySem.Str.ofString "above" then some (.int v tv) else if y = x then some (.int k t) else m₀ y))
    (N : News h₀ L h' (Two l1 l2 vs n1 n2 a ta b tb own)) (ha : 0 ≤ a) (hb : 0 ≤ b) (hb' : b < 2147483647) :
    InvEndN h₀ L (KstS (Led l1 l2 vs n1 n2) NoPs NoFa x [PySem.Str.ofString "above"] m₀ Word pre) own [l1, l2] s₁ { s₁ with heap := h', toks := tk } := by
  refine kst_end (a, ta, b, tb) F N ?_ ?_ rfl True.intro (fun _ hp => nomatch hp) ?_ ⟨ha, hb, hb'⟩
  · intro p hp
    exact List.mem_append.mpr (Or.inl hp : p ∈ Two l1 l2 vs n1 n2 a ta b tb [] ∨ p ∈ own)
  · intro p hp
    exact List.mem_append.mpr (Or.inr hp : p ∈ Two l1 l2 vs n1 n2 a ta b tb [] ∨ p ∈ own)
  · intro z hz _ hc
    have hz' : z ≠ PySem.Str.ofString "above" := by
      intro e
      subst e
      simp at hc
    rw [if_neg hz', if_neg hz]

/- the pool -/
def Pool (h₀ : Heap) (L : Addr) (m : PySem.Str → Option Value) (l2 : Addr) (vs : List Value) (n2 : Nat) (s : Shared) (f : Flow) (s₂ : Shared) : Prop :=
  f = .next ∧ ∃ h' tk l1 n1 a ta b tb, s₂ = { s with heap := h', toks := tk } ∧ Fr h₀ L h' (fun y => if y = PySem.Str.ofString "source" then some (.ref l1) else m y) ∧
    News h₀ L h' (Two l1 l2 vs n1 n2 a ta b tb []) ∧ @LT.lt Nat _ l2 l1 ∧ (0 ≤ a ∧ 0 ≤ b ∧ b < 2147483647)
theorem Pool.intro {h₀ : Heap} {L : Addr} {m : PySem.Str → Option Value} {l1 l2 : Addr} {vs : List Value} {n1 n2 : Nat} {s : Shared} {h' : Heap} {tk : Nat} {a : Int} {ta : Nat} {b : Int} {tb : Nat}
    (F : Fr h₀ L h' (fun y => if y = PySem.Str.ofString "source" then some (.ref l1) else m y)) (N : News h₀ L h' (Two l1 l2 vs n1 n2 a ta b tb []))
    (hl : @LT.lt Nat _ l2 l1) (ha : 0 ≤ a) (hb : 0 ≤ b) (hb' : b < 2147483647) : Pool h₀ L m l2 vs n2 s .next { s with heap := h', toks := tk } :=
  ⟨rfl, h', tk, l1, n1, a, ta, b, tb, rfl, F, N, hl, ha, hb, hb'⟩
theorem cut_pool {env : Env} {h₀ : Heap} {st : Stmt} {rest : List Stmt} {Q : Flow → Shared → Prop} {l2 : Addr} {vs : List Value} {n2 : Nat} {m : PySem.Str → Option Value}
    (F : Fr h₀ env.locals s.heap m) (N : News h₀ env.locals s.heap [(l2, W.listOf vs.toArray n2)])
    (h1 : wpAny (model prog w) A (exec st env) (Pool h₀ env.locals m l2 vs n2 s) E s)
    (h2 : ∀ h' tk l1 n1 a ta b tb, @LT.lt Nat _ l2 l1 → 0 ≤ a → 0 ≤ b → b < 2147483647 →
      Fr h₀ env.locals h' (fun y => if y = PySem.Str.ofString "source" then some (.ref l1) else m y) →
      News h₀ env.locals h' [(l1, W.listOf #[Value.int a ta, Value.int b tb] n1), (l2, W.listOf vs.toArray n2)] →
      wpAny (model prog w) A (execs rest env) Q E { s with heap := h', toks := tk }) :
    wpAny (model prog w) A (execs (st :: rest) env) Q E s := by
  refine wpAny_execs_cons (wpAny_mono h1 ?_ fun _ _ x => x)
  rintro f s₂ ⟨rfl, h', tk, l1, n1, a, ta, b, tb, rfl, F', N', hl, ha, hb, hb'⟩
  exact h2 h' tk l1 n1 a ta b tb hl ha hb hb' F' N'

/- led_back's loop -/
def itl : Nat → Int → Int
  | 0, c => c
  | n + 1, c => lb (itl n c)
theorem led_itl (c : Int) : led c = itl 4 c := by rw [led_def]; rfl
theorem led_turn1 {c c0 k : Int} {pre : List Int} (h : c = itl pre.length c0) (h2 : (2 : Int) ^ Int.toNat 31 ≤ c) : 2 * Builtin.bitXor c 3988292384 + 1 = itl (pre ++ [k]).length c0 := by
  have e : (pre ++ [k]).length = pre.length + 1 := by simp
  rw [e]
  show _ = lb (itl pre.length c0)
  rw [← h, lb, if_pos (by simpa using h2)]
theorem led_turn2 {c c0 k : Int} {pre : List Int} (h : c = itl pre.length c0) (h2 : ¬ (2 : Int) ^ Int.toNat 31 ≤ c) : 2 * c = itl (pre ++ [k]).length c0 := by
  have e : (pre ++ [k]).length = pre.length + 1 := by simp
  rw [e]
  show _ = lb (itl pre.length c0)
  rw [← h, lb, if_neg (by simpa using h2)]
def LedPs (c : Int × Nat) : List (PySem.Str × Value) := [(PySem.Str.ofString "check", Value.int c.1 c.2)]
def LedFa (_ : Int × Nat) : Prop := True
def LedWord (c0 : Int) (pre : List Int) (c : Int × Nat) : Prop := c.1 = itl pre.length c0
theorem led_loop {env : Env} {h₀ : Heap} {x : PySem.Str} {body : List Stmt} {Q : Flow → Shared → Prop} {r : Addr} {news : List (Addr × Obj)} {c0 : Int} {tc : Nat} {t₀ u₀ v₀ : Tok} {m₀ : PySem.Str → Option Value}
    (hh : A.handled = none) (hr : IsRange s.heap r 0 4 1 t₀ u₀ v₀) (F : Fr h₀ env.locals s.heap m₀)
    (N : News h₀ env.locals s.heap news) (hk : m₀ (PySem.Str.ofString "check") = some (.int c0 tc))
    (turn : ∀ (c : Int) (tc : Nat) (pre : List Int) (k : Int) t h tk own, OwnOff own (news.map (·.1)) → c = itl pre.length c0 →
      Fr h₀ env.locals h (fun y => if y = x then some (.int k t) else if y = PySem.Str.ofString "check" then some (.int c tc) else m₀ y) →
      News h₀ env.locals h (news ++ own) →
      wpAny (model prog w) A (execs body env) (InvPostN h₀ env.locals (KstS (fun _ => news) LedPs LedFa x [] m₀ (LedWord c0) (pre ++ [k])) own (news.map (·.1)) { s with heap := h, toks := tk } Q) E { s with heap := h, toks := tk })
    (done : ∀ (tc : Nat) (u : PySem.Str → Option Value) h tk,
      Fr h₀ env.locals h (fun y => if y = x then u y else if y = PySem.Str.ofString "check" then some (.int (led c0) tc) else m₀ y) →
      News h₀ env.locals h news → Q .next { s with heap := h, toks := tk }) :
    wpAny (model prog w) A (pyIter (.ref r)) (fun it s₂ => LoopAtV prog w A h₀ env x body Q E it s₂) E s := by
  refine kst_range (n := 4) (fun _ => news) LedPs LedFa [] (LedWord c0) (c0, tc) hh hr (by decide) (by rfl) F N True.intro ?_ rfl ?_ ?_
  · intro p hp
    rcases List.mem_cons.mp hp with rfl | hp
    · exact hk
    · exact nomatch hp
  · rintro ⟨c, tc⟩ pre k t u h tk own e hlt hoff _ h1 F' N'
    exact turn c tc pre k t h tk own hoff h1 F' N'
  · rintro ⟨c, tc⟩ u h tk _ h1 F' N'
    have e : c = led c0 := by rw [led_itl]; exact h1
    subst e
    exact done tc u h tk F' N'
theorem led_end {h₀ : Heap} {L : Addr} {x : PySem.Str} {news : List (Addr × Obj)} {c0 : Int} {m₀ : PySem.Str → Option Value} {pre : List Int} {own : List (Addr × Obj)} {s₁ : Shared} {h' : Heap} {tk : Nat} {c c' k : Int} {tc tc' t : Tok}
    (F : Fr h₀ L h' (fun y => if y = PySem.Str.ofString "check" then some (.int c tc) else if y = x then some (.int k t) else if y = PySem.Str.ofString "check" then some (.int c' tc') else m₀ y))
    (N : News h₀ L h' (news ++ own)) (e : c = itl pre.length c0) :
    InvEndN h₀ L (KstS (fun _ => news) LedPs LedFa x [] m₀ (LedWord c0) pre) own (news.map (·.1)) s₁ { s₁ with heap := h', toks := tk } := by
  refine kst_end (c, tc) F N (fun p hp => List.mem_append.mpr (.inl hp)) (fun p hp => List.mem_append.mpr (.inr hp)) rfl True.intro ?_ ?_ e
  · intro p hp
    rcases List.mem_cons.mp hp with rfl | hp
    · rfl
    · exact nomatch hp
  · intro z hz h2 _
    have hz' : z ≠ PySem.Str.ofString "check" := h2 _ (List.Mem.head _)
    rw [if_neg hz', if_neg hz, if_neg hz']
end
/- the pool's bounds -/
theorem great_lo (g : Int) : (0 : Int) ≤ (if -1 - g > g then -1 - g else g) * (if decide ((10:Int) ^ Int.toNat 18 ≤ if -1 - g > g then -1 - g else g) = true then 1 else 0) := by
  refine Int.mul_nonneg ?_ ?_
  · split <;> omega
  · split <;> omega
theorem fm_lo (x : Int) : 0 ≤ x.fmod 2147483647 := by
  rw [Int.fmod_eq_emod_of_nonneg _ (by decide)]; omega
theorem fm_hi (x : Int) : x.fmod 2147483647 < 2147483647 := by
  rw [Int.fmod_eq_emod_of_nonneg _ (by decide)]; omega
theorem above_ok (x y : Int) : 0 ≤ x.fmod (2 ^ Int.toNat 14) * 2 ^ Int.toNat 14 + y.fmod (2 ^ Int.toNat 14) ∧ x.fmod (2 ^ Int.toNat 14) * 2 ^ Int.toNat 14 + y.fmod (2 ^ Int.toNat 14) < 2 ^ 28 := by
  have e : (2 : Int) ^ Int.toNat 14 = 16384 := by decide
  rw [e, Int.fmod_eq_emod_of_nonneg _ (by decide), Int.fmod_eq_emod_of_nonneg _ (by decide)]
  omega
theorem fd_lo {x : Int} (h : 0 ≤ x) : 0 ≤ x.fdiv (2 ^ Int.toNat 14) := by
  have e : (2 : Int) ^ Int.toNat 14 = 16384 := by decide
  rw [e, Int.fdiv_eq_ediv_of_nonneg _ (by decide)]
  omega
theorem fm16_lo (x : Int) : 0 ≤ x.fmod 16 := by
  rw [Int.fmod_eq_emod_of_nonneg _ (by decide)]; omega
theorem fm16_hi (x : Int) : x.fmod 16 < 16 := by
  rw [Int.fmod_eq_emod_of_nonneg _ (by decide)]; omega
end Mine

local macro_rules | `(tactic| walk_at "pyIter ref") => `(tactic| k_of "bits" => (
  (with_reducible show wpAny _ _ (pyIter (Value.ref _)) (fun it s₂ => LoopAtV _ _ _ _ _ _ _ _ _ it s₂) _ _)
  k_here
  rename Fr _ _ _ _ => lF'
  rename News _ _ _ _ => lN'
  rename IsRange _ _ _ _ _ _ _ _ => rgX
  (with_unfolding_all refine' Mine.law_loop (by rfl) rgX lF' lN' ⟨by assumption, by assumption, by assumption⟩ ?_ ?_ ?_)
  all_goals (try clear lF' lN' rgX)
  (intro kA kTa kB kTb kN kT kM kH kTk kOwn kOff kA0 kB0 kB1 kFr kNews; rotate_left)
  (intro kA kTa kB kTb kV kTv kN kT kPre kS kH kTk kOwn kOff kA0 kB0 kB1 kN0 kN1 kV0 kV1 kFr kNews kg kd ko; rotate_left)
  (intro kA kTa kB kTb kU kH kTk kFr kNews; rotate_left)
  all_goals (try k_fold)))
local macro_rules | `(tactic| walk_at "pyIter ref") => `(tactic| k_of "turn" => (
  (with_reducible show wpAny _ _ (pyIter (Value.ref _)) (fun it s₂ => LoopAtV _ _ _ _ _ _ _ _ _ it s₂) _ _)
  k_here
  rename Fr _ _ _ _ => lF'
  rename News _ _ _ _ => lN'
  rename IsRange _ _ _ _ _ _ _ _ => rgX
  (with_unfolding_all refine' Mine.led_loop (by rfl) rgX lF' lN' ?k1 ?_ ?_)
  (case k1 => with_unfolding_all exact rfl)
  all_goals (try clear lF' lN' rgX)
  (intro kA kTa kPre kN kT kH kTk kOwn kOff kInv kFr kNews; rotate_left)
  (intro kTa kU kH kTk kFr kNews; rotate_left)
  all_goals (try k_fold)))
local macro_rules | `(tactic| walk_at "execs cons Assign") => `(tactic| (
  (with_reducible show wpAny _ _ (execs (Stmt.Assign [PySem.Expr.Name (PySem.Str.ofString "source") _] (PySem.Expr.Call (PySem.Expr.Name (PySem.Str.ofString "_law_pool") _) _ _ _) _ :: _) _) _ _ _)
  k_here
  rename Fr _ _ _ _ => lF'
  rename News _ _ _ _ => lN'
  (with_unfolding_all refine' Mine.cut_pool lF' lN' ?_ ?_)
  rotate_left
  (clear lF' lN'; intro kH kTk kL1 kN1 kA kTa kB kTb kLt kA0 kB0 kB1 kFr kNews; rotate_left)
  all_goals (try k_fold)))
local macro_rules | `(tactic| walk_at "Pool") => `(tactic| (refine Mine.Pool.intro (by assumption) (by assumption) (by assumption) ?_ ?_ ?_ <;> first | assumption | exact Mine.great_lo _ | exact Mine.fm_lo _ | exact Mine.fm_hi _ | decide))
local macro_rules | `(tactic| walk_at "Mid") => `(tactic| (first | (refine Mine.Mid.intro (by assumption) (by assumption) (Mine.above_ok _ _) ⟨?_, ?_, ?_⟩ <;> first | assumption | exact Mine.fm_lo _ | exact Mine.fm_hi _ | exact Mine.fd_lo (by assumption) | exact Mine.fd_lo (Mine.fd_lo (by assumption)))))
local macro_rules | `(tactic| walk_at "InvEndN") => `(tactic| (goal_has Mine.Word; refine Mine.law_end (by assumption) (by assumption) (by assumption) (by assumption) (by assumption)))
local macro_rules | `(tactic| walk_at "InvEndN") => `(tactic| (goal_has Mine.LedWord; refine Mine.led_end (by assumption) (by assumption) ?_; first | exact Mine.led_turn1 (by assumption) (by assumption) | exact Mine.led_turn2 (by assumption) (by assumption)))
local macro_rules | `(tactic| walk_at "call ref") => `(tactic| k_call_by "_law_led_back" Mine.led)
local macro_rules | `(tactic| walk_at "compareOp NotEq int int") => `(tactic| (k_here; (with_reducible refine Mine.ne_eq ?e ?_); (case e => first | exact Mine.led_tab (by assumption) (by assumption) | exact Mine.led_above (by assumption) (by assumption) (by assumption) (by assumption) | exact Mine.tab_xor (by assumption) (Mine.fm16_lo _))))
local macro_rules | `(tactic| walk_at "subscriptTail Name Name ref int") => `(tactic| (k_here; (with_reducible show wpAny _ _ (subscriptTail _ _ (Value.ref _) (Value.int _ _)) _ _ _); (with_unfolding_all refine' Mine.item_tab ?k1 ?k2 ?k3 ?k4 ?k5 ?_ ?k6; (case k3 => assumption); (case k4 => first | assumption | exact Mine.fm16_lo _ | exact Mine.xor_lo (by assumption) (Mine.fm16_lo _)); (case k5 => first | assumption | exact Mine.fm16_hi _ | exact Mine.xor_hi (by assumption) (by assumption) (Mine.fm16_lo _) (Mine.fm16_hi _)); (case k1 => is_list); (case k2 => l_ints); (case k6 => with_unfolding_all rfl); k_whole); intro _ tabLo tabHi))
local macro_rules | `(tactic| walk_at "subscriptTail Name BinOp ref int") => `(tactic| (k_here; (with_reducible show wpAny _ _ (subscriptTail _ _ (Value.ref _) (Value.int _ _)) _ _ _); (with_unfolding_all refine' Mine.item_tab ?k1 ?k2 ?k3 ?k4 ?k5 ?_ ?k6; (case k3 => assumption); (case k4 => first | assumption | exact Mine.fm16_lo _ | exact Mine.xor_lo (by assumption) (Mine.fm16_lo _)); (case k5 => first | assumption | exact Mine.fm16_hi _ | exact Mine.xor_hi (by assumption) (by assumption) (Mine.fm16_lo _) (Mine.fm16_hi _)); (case k1 => is_list); (case k2 => l_ints); (case k6 => with_unfolding_all rfl); k_whole); intro _ tabLo tabHi))
local macro_rules | `(tactic| walk_at "subscriptTail Name Constant ref int") => `(tactic| (k_here; (with_reducible show wpAny _ _ (subscriptTail _ _ (Value.ref _) (Value.int 8 _)) _ _ _); (with_unfolding_all refine' Mine.item_tab8 ?k1 ?k2 ?k3 ?_ ?k6; (case k1 => is_list); (case k2 => l_ints); (case k3 => assumption); (case k6 => with_unfolding_all rfl); k_whole); intro _))
local macro_rules | `(tactic| walk_at "subscriptTail Name Constant ref int") => `(tactic| (k_here; (with_reducible show wpAny _ _ (subscriptTail _ _ (Value.ref _) (Value.int 0 _)) _ _ _); (with_unfolding_all refine' Mine.item_two0 ?k1 ?_ ?k6; (case k1 => exact News.isList (by assumption) (List.Mem.head _)); (case k6 => with_unfolding_all rfl); k_whole)))
local macro_rules | `(tactic| walk_at "subscriptTail Name Constant ref int") => `(tactic| (k_here; (with_reducible show wpAny _ _ (subscriptTail _ _ (Value.ref _) (Value.int 1 _)) _ _ _); (with_unfolding_all refine' Mine.item_two1 ?k1 ?_ ?k6; (case k1 => exact News.isList (by assumption) (List.Mem.head _)); (case k6 => with_unfolding_all rfl); k_whole)))
set_option maxHeartbeats 8000000 in
theorem PySem.Challenge.cw_xm0697_01_holds : PySem.Challenge.rw_xm0697_01.Holds := by
  k_with "pyIter ref" => kpr_short
  k_with "exec For Name Call cons nil" => kpr_for
  k_with "pyIter ref" => k_state (fun pre found => found.length = pre.length ∧ found = pre.map Mine.tab) "found"
  k_with "state" => first | exact Mine.k1_start | exact Mine.k1_turn (by assumption) (by assumption)
  open_k
