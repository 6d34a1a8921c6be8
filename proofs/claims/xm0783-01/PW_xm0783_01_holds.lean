import PyProof.Rows.All
import Wide.All
import OpenK.AllK
import Wide.FinOn
import PySem.Challenge.RW_xm0783_01
open PySem PySem.W PyProof.Rows
set_option Elab.async false

namespace Mine

/-- what holds of the two ints of the source between the turns -/
def SrcOk (a b : Int) : Prop := 0 ≤ a ∧ 0 ≤ b ∧ b < 2147483647

section
variable {prog : Program} {w : World} {A : Around} {E : Value → Shared → Prop} {s : Shared} {env : Env} {h₀ : Heap} {x : Str} {body : List Stmt} {Q : Flow → Shared → Prop}

/-- the state of the outer loop: the source's two ints -/
abbrev SrcSt := Int × Tok × Int × Tok
abbrev srcLed (l : Addr) (nn : Nat) (c : SrcSt) : List (Addr × Obj) := [(l, listOf #[.int c.1 c.2.1, .int c.2.2.1 c.2.2.2] nn)]

theorem outer_loop {l r : Addr} {a b : Int} {t u t₀ u₀ v₀ : Tok} {nn : Nat} {m₀ : Str → Option Value} (stored : List Str)
    (hh : A.handled = none) (hr : IsRange s.heap r 0 3 1 t₀ u₀ v₀) (F : Fr h₀ env.locals s.heap m₀)
    {news : List (Addr × Obj)} (N₀ : News h₀ env.locals s.heap ((l, listOf #[.int a t, .int b u] nn) :: news)) (hp : SrcOk a b)
    (turn : ∀ (a : Int) (t : Tok) (b : Int) (u : Tok) (k : Int) (kt : Tok) (z : Str → Option Value) (h : Heap) (tk : Nat) (own : List (Addr × Obj)) (pre : List Int),
      OwnOff own [l] → SrcOk a b →
      Fr h₀ env.locals h (fun y => if y = x then some (.int k kt) else if stored.contains y then z y else m₀ y) →
      News h₀ env.locals h ((l, listOf #[.int a t, .int b u] nn) :: own) →
      wpAny (model prog w) A (execs body env)
        (InvPostN h₀ env.locals (KstS (srcLed l nn) (fun _ => []) (fun _ => True) x stored m₀ (fun _ c => SrcOk c.1 c.2.2.1) (pre ++ [k])) own [l] { s with heap := h, toks := tk } Q) E { s with heap := h, toks := tk })
    (done : ∀ (a : Int) (t : Tok) (b : Int) (u : Tok) (z : Str → Option Value) (h : Heap) (tk : Nat), SrcOk a b →
      Fr h₀ env.locals h (fun y => if y = x then z y else if stored.contains y then z y else m₀ y) →
      News h₀ env.locals h [(l, listOf #[.int a t, .int b u] nn)] → Q .next { s with heap := h, toks := tk }) :
    wpAny (model prog w) A (pyIter (.ref r)) (fun it s₂ => LoopAtV prog w A h₀ env x body Q E it s₂) E s := by
  have N : News h₀ env.locals s.heap [(l, listOf #[.int a t, .int b u] nn)] := fun p hp => N₀ p (by rw [List.mem_singleton.mp hp]; exact .head _)
  refine kst_range (srcLed l nn) (fun _ => []) (fun _ => True) stored (fun _ c => SrcOk c.1 c.2.2.1) (a, t, b, u) hh hr (by decide) (n := 3) (by rfl) F N trivial (fun _ h => nomatch h) hp ?_ ?_
  · rintro ⟨a, t, b, u⟩ pre k kt z h tk own - - hoff - hok F N
    exact turn a t b u k kt z h tk own pre hoff hok F N
  · rintro ⟨a, t, b, u⟩ z h tk - hok F N
    exact done a t b u z h tk hok F N
end
end Mine
namespace Mine
section
variable {prog : Program} {w : World} {A : Around} {E : Value → Shared → Prop} {s : Shared} {env : Env} {h₀ : Heap} {x : Str} {body : List Stmt} {Q : Flow → Shared → Prop}
/-- the state of the inner loop: the source's two ints, the list of numbers -/
abbrev RowSt := Int × Tok × Int × Tok × List Value × List Int × Nat
abbrev rowLed (q l : Addr) (nn : Nat) (own : List (Addr × Obj)) (c : RowSt) : List (Addr × Obj) :=
  (q, listOf c.2.2.2.2.1.toArray c.2.2.2.2.2.2) :: (l, listOf #[.int c.1 c.2.1, .int c.2.2.1 c.2.2.2.1] nn) :: own

theorem inner_loop {l q r : Addr} {a b e : Int} {t u t₀ u₀ v₀ : Tok} {nn nq : Nat} {own : List (Addr × Obj)} {m₀ : Str → Option Value} (stored : List Str)
    (hh : A.handled = none) (hr : IsRange s.heap r 0 e 1 t₀ u₀ v₀) (F : Fr h₀ env.locals s.heap m₀)
    (N : News h₀ env.locals s.heap ((q, listOf #[] nq) :: (l, listOf #[.int a t, .int b u] nn) :: own)) (hp : SrcOk a b) (he0 : 0 ≤ e) (he1 : e ≤ 5)
    (turn : ∀ (a : Int) (t : Tok) (b : Int) (u : Tok) (vs : List Value) (ns : List Int) (nq : Nat) (k : Int) (kt : Tok) (z : Str → Option Value) (h : Heap) (tk : Nat) (own' : List (Addr × Obj)) (pre : List Int),
      OwnOff own' (q :: l :: own.map (·.1)) → SrcOk a b → IntsAre vs ns → ns.length = pre.length → ns.length < 5 →
      Fr h₀ env.locals h (fun y => if y = x then some (.int k kt) else if stored.contains y then z y else m₀ y) →
      News h₀ env.locals h ((q, listOf vs.toArray nq) :: (l, listOf #[.int a t, .int b u] nn) :: (own ++ own')) →
      wpAny (model prog w) A (execs body env)
        (InvPostN h₀ env.locals (KstS (rowLed q l nn own) (fun _ => []) (fun c => IntsAre c.2.2.2.2.1 c.2.2.2.2.2.1) x stored m₀ (fun pre c => SrcOk c.1 c.2.2.1 ∧ c.2.2.2.2.2.1.length = pre.length) (pre ++ [k])) own' (q :: l :: own.map (·.1)) { s with heap := h, toks := tk } Q) E { s with heap := h, toks := tk })
    (done : ∀ (a : Int) (t : Tok) (b : Int) (u : Tok) (vs : List Value) (ns : List Int) (nq : Nat) (z : Str → Option Value) (h : Heap) (tk : Nat), SrcOk a b → IntsAre vs ns → (ns.length : Int) = e →
      Fr h₀ env.locals h (fun y => if y = x then z y else if stored.contains y then z y else m₀ y) →
      News h₀ env.locals h ((q, listOf vs.toArray nq) :: (l, listOf #[.int a t, .int b u] nn) :: own) → Q .next { s with heap := h, toks := tk }) :
    wpAny (model prog w) A (pyIter (.ref r)) (fun it s₂ => LoopAtV prog w A h₀ env x body Q E it s₂) E s := by
  refine kst_range (rowLed q l nn own) (fun _ => []) (fun c => IntsAre c.2.2.2.2.1 c.2.2.2.2.2.1) stored (fun pre c => SrcOk c.1 c.2.2.1 ∧ c.2.2.2.2.2.1.length = pre.length) (a, t, b, u, [], [], nq) hh hr (small_one (by omega) (by omega) (by omega) (by omega)) (rangeSize_nat _ _) F N .nil (fun _ h => nomatch h) ⟨hp, rfl⟩ ?_ ?_
  · rintro ⟨a, t, b, u, vs, ns, nq⟩ pre k kt z h tk own' - hlt hoff hi ⟨hok, hlen⟩ F N
    have hlen' : ns.length = pre.length := hlen
    exact turn a t b u vs ns nq k kt z h tk own' pre hoff hok hi hlen (by omega) F N
  · rintro ⟨a, t, b, u, vs, ns, nq⟩ z h tk hi ⟨hok, hlen⟩ F N
    have hlen' : ns.length = (rangeKs 0 (e - 0).toNat).length := hlen
    rw [rangeKs_length] at hlen'
    exact done a t b u vs ns nq z h tk hok hi (by omega) F N
end
end Mine

namespace Mine
theorem src_start (c : Int) : SrcOk
    ((if -1 - c > c then -1 - c else c) * (if decide ((10 : Int) ^ Int.toNat 15 ≤ if -1 - c > c then -1 - c else c) = true then 1 else 0))
    ((((if -1 - c > c then -1 - c else c).fmod 2147483629 + 17) * 48271).fmod 2147483647) := by
  have hg : 0 ≤ (if -1 - c > c then -1 - c else c) := by split <;> omega
  generalize (if -1 - c > c then -1 - c else c) = g at *
  refine ⟨?_, ?_, ?_⟩
  · split <;> omega
  · rw [Int.fmod_eq_emod_of_nonneg _ (by decide)]; exact Int.emod_nonneg _ (by decide)
  · rw [Int.fmod_eq_emod_of_nonneg _ (by decide)]; exact Int.emod_lt_of_pos _ (by decide)
end Mine
namespace Mine
section
variable {M : Model} {A : Around} {E : Value → Shared → Prop} {s : Shared} {h₀ : Heap} {L : Addr} {m : Str → Option Value} {Q : Value → Shared → Prop}

/-- what _law_take leaves: a number below top; the source turned, all else as it stood -/
def TakeOut (h₀ : Heap) (L : Addr) (m : Str → Option Value) (pre : List (Addr × Obj)) (l : Addr) (nn : Nat) (rest : List (Addr × Obj)) (top : Int) (s : Shared) (v : Value) (s' : Shared) : Prop :=
  ∃ (x : Int) (t : Tok) (a : Int) (ta : Tok) (b : Int) (tb : Tok) (h : Heap) (tk : Nat), v = .int x t ∧ s' = { s with heap := h, toks := tk } ∧ 0 ≤ x ∧ x < top ∧ SrcOk a b ∧
    Fr h₀ L h m ∧ News h₀ L h (pre ++ (l, listOf #[.int a ta, .int b tb] nn) :: rest)

theorem take_end {pre rest : List (Addr × Obj)} {l : Addr} {nn : Nat} {top x a b : Int} {t ta tb : Tok} {h : Heap} {tk : Nat} (h0 : 0 ≤ x) (h1 : x < top) (hok : SrcOk a b) (F : Fr h₀ L h m) (N : News h₀ L h (pre ++ (l, listOf #[.int a ta, .int b tb] nn) :: rest)) :
    TakeOut h₀ L m pre l nn rest top s (.int x t) { s with heap := h, toks := tk } :=
  ⟨x, t, a, ta, b, tb, h, tk, rfl, rfl, h0, h1, hok, F, N⟩

theorem take_cut {f : Value} {tt : Tok} {l : Addr} {nn : Nat} {top a b : Int} {ta tb : Tok} (pre : List (Addr × Obj)) {rest : List (Addr × Obj)} (_F : Fr h₀ L s.heap m) (_N : News h₀ L s.heap (pre ++ (l, listOf #[.int a ta, .int b tb] nn) :: rest))
    (hc : wpAny M A (call f [.ref l, .int top tt]) (TakeOut h₀ L m pre l nn rest top s) E s)
    (hk : ∀ (x : Int) (t : Tok) (a : Int) (ta : Tok) (b : Int) (tb : Tok) (h : Heap) (tk : Nat), 0 ≤ x → x < top → SrcOk a b → Fr h₀ L h m → News h₀ L h (pre ++ (l, listOf #[.int a ta, .int b tb] nn) :: rest) → Q (.int x t) { s with heap := h, toks := tk }) : wpAny M A (call f [.ref l, .int top tt]) Q E s := by
  refine wpAny_mono hc (fun v s₂ hq => ?_) fun _ _ h => h
  obtain ⟨x, t, a, ta, b, tb, h, tk, rfl, rfl, h0, h1, hok, F, N⟩ := hq
  exact hk x t a ta b tb h tk h0 h1 hok F N
end

/-- the two ways of a draw -/
theorem take_old {a b top : Int} (ha : 0 < a) (ht : 0 < top) (hb : 0 ≤ b) (hb1 : b < 2147483647) : 0 ≤ a.fmod top ∧ a.fmod top < top ∧ SrcOk (a.fdiv top) b := by
  rw [Int.fmod_eq_emod_of_nonneg _ (Int.le_of_lt ht), Int.fdiv_eq_ediv_of_nonneg _ (Int.le_of_lt ht)]
  exact ⟨Int.emod_nonneg _ (Int.ne_of_gt ht), Int.emod_lt_of_pos _ ht, Int.ediv_nonneg (Int.le_of_lt ha) (Int.le_of_lt ht), hb, hb1⟩
theorem take_new {y top : Int} (ht : 0 < top) : 0 ≤ ((y.fmod 2147483629).fdiv 32).fmod top ∧ ((y.fmod 2147483629).fdiv 32).fmod top < top := by
  rw [Int.fmod_eq_emod_of_nonneg _ (Int.le_of_lt ht)]
  exact ⟨Int.emod_nonneg _ (Int.ne_of_gt ht), Int.emod_lt_of_pos _ ht⟩
theorem src_new {a y : Int} (ha : 0 ≤ a) : SrcOk a (y.fmod 2147483647) := by
  refine ⟨ha, ?_, ?_⟩
  · rw [Int.fmod_eq_emod_of_nonneg _ (by decide)]; exact Int.emod_nonneg _ (by decide)
  · rw [Int.fmod_eq_emod_of_nonneg _ (by decide)]; exact Int.emod_lt_of_pos _ (by decide)
theorem sq_ok (y c : Int) : IntMulOk (y.fmod 2147483647) c := by
  have h := (src_new (a := 0) (y := y) (Int.le_refl _)).2
  exact IntMulOk.of_left (intBits_le_64 (by omega) (by omega))
section
variable {s : Shared} {h₀ : Heap} {L : Addr} {m : Str → Option Value} {pre rest : List (Addr × Obj)} {l : Addr} {nn : Nat} {top a b y y' : Int} {t ta tb : Tok} {h : Heap} {tk : Nat}
theorem take_end_old (F : Fr h₀ L h m) (N : News h₀ L h (pre ++ (l, listOf #[.int (a.fdiv top) ta, .int b tb] nn) :: rest)) (ha : 0 < a) (ht : 0 < top) (hb : 0 ≤ b) (hb1 : b < 2147483647) :
    TakeOut h₀ L m pre l nn rest top s (.int (a.fmod top) t) { s with heap := h, toks := tk } :=
  have q := take_old ha ht hb hb1
  take_end q.1 q.2.1 q.2.2 F N
theorem take_end_new (F : Fr h₀ L h m) (N : News h₀ L h (pre ++ (l, listOf #[.int a ta, .int (y'.fmod 2147483647) tb] nn) :: rest)) (ha : 0 ≤ a) (ht : 0 < top) :
    TakeOut h₀ L m pre l nn rest top s (.int (((y.fmod 2147483629).fdiv 32).fmod top) t) { s with heap := h, toks := tk } :=
  have q := take_new (y := y) ht
  take_end q.1 q.2 (src_new ha) F N
end
end Mine

namespace Mine
/-- an item of a list of five ints at a place in bounds: some int -/
theorem item5 {prog : Program} {w : World} {A : Around} {E : Value → Shared → Prop} {s : Shared} {h₀ : Heap} {L D : Addr} {rest : List (Addr × Obj)} {value slice : PySem.Expr} {i1 i2 i3 i4 i5 k : Int} {t1 t2 t3 t4 t5 u : Tok} {n : Nat} {Q : Value → Shared → Prop}
    (N : News h₀ L s.heap ((D, listOf #[.int i1 t1, .int i2 t2, .int i3 t3, .int i4 t4, .int i5 t5] n) :: rest)) (h0 : 0 ≤ k) (h1 : k < 5) (h : ∀ z t, Q (.int z t) s)
    (hs : subscripted slice false (.ref D) (.int k u) = operate [.ref D, .int k u] (getItem (.ref D) (.int k u)) := by with_unfolding_all rfl) :
    wpAny (model prog w) A (subscriptTail value slice (.ref D) (.int k u)) Q E s :=
  ksa_sub (vs := [.int i1 t1, .int i2 t2, .int i3 t3, .int i4 t4, .int i5 t5]) (ns := [i1, i2, i3, i4, i5]) N (.head _) (.cons _ _ (.cons _ _ (.cons _ _ (.cons _ _ (.cons _ _ .nil))))) h0 (by simpa using h1) (by omega) (fun t => h _ t) hs
end Mine
namespace Mine
section
variable {M : Model} {A : Around} {E : Value → Shared → Prop} {s : Shared} {h₀ : Heap} {L : Addr} {m : Str → Option Value} {Q : Value → Shared → Prop} {news : List (Addr × Obj)} {h : Heap} {tk : Nat}
/-- what a call leaves that changes nothing: a value of which P holds -/
def ValOut (h₀ : Heap) (L : Addr) (m : Str → Option Value) (news : List (Addr × Obj)) (P : Value → Prop) (s : Shared) (v : Value) (s' : Shared) : Prop :=
  P v ∧ ∃ (h : Heap) (tk : Nat), s' = { s with heap := h, toks := tk } ∧ Fr h₀ L h m ∧ News h₀ L h news
theorem val_end {P : Value → Prop} {v : Value} (F : Fr h₀ L h m) (N : News h₀ L h news) (hp : P v) : ValOut h₀ L m news P s v { s with heap := h, toks := tk } := ⟨hp, h, tk, rfl, F, N⟩
theorem val_cut {c : Sem Value} (P : Value → Prop) (_F : Fr h₀ L s.heap m) (_N : News h₀ L s.heap news)
    (hc : wpAny M A c (ValOut h₀ L m news P s) E s)
    (hk : ∀ (v : Value) (h : Heap) (tk : Nat), P v → Fr h₀ L h m → News h₀ L h news → Q v { s with heap := h, toks := tk }) : wpAny M A c Q E s := by
  refine wpAny_mono hc (fun v s₂ hq => ?_) fun _ _ h => h
  obtain ⟨hp, h, tk, rfl, F, N⟩ := hq
  exact hk v h tk hp F N
end
/-- the whole number nearest to the mean, of two the one further from nought -/
def rm (ns : List Int) : Int :=
  if 0 ≤ ns.sum then ((2 * (if -ns.sum > ns.sum then -ns.sum else ns.sum)) + (ns.length : Int)).fdiv (2 * (ns.length : Int))
  else -((2 * (if -ns.sum > ns.sum then -ns.sum else ns.sum)) + (ns.length : Int)).fdiv (2 * (ns.length : Int))
def IsMean (ns : List Int) (v : Value) : Prop := ∃ t, v = .int (rm ns) t
def IsYes (v : Value) : Prop := v = .bool true
end Mine
namespace Mine
theorem mean_pos {ns : List Int} {t : Tok} (h : 0 ≤ ns.sum) : IsMean ns (.int (((2 * (if -ns.sum > ns.sum then -ns.sum else ns.sum)) + (ns.length : Int)).fdiv (2 * (ns.length : Int))) t) := ⟨t, by rw [rm, if_pos h]⟩
theorem mean_neg {ns : List Int} {t : Tok} (h : ¬ 0 ≤ ns.sum) : IsMean ns (.int (-((2 * (if -ns.sum > ns.sum then -ns.sum else ns.sum)) + (ns.length : Int)).fdiv (2 * (ns.length : Int))) t) := ⟨t, by rw [rm, if_neg h]⟩
end Mine
namespace Mine
theorem half_bounds {T n : Int} (hT : 0 ≤ T) (hn : 0 < n) : 0 ≤ (2 * T + n).fdiv (2 * n) * n ∧ 2 * ((2 * T + n).fdiv (2 * n) * n) ≤ 2 * T + n ∧ 2 * T + n < 2 * ((2 * T + n).fdiv (2 * n) * n) + 2 * n := by
  have h2 : 0 < 2 * n := by omega
  rw [Int.fdiv_eq_ediv_of_nonneg _ (Int.le_of_lt h2)]
  have e1 := Int.mul_ediv_self_le (x := 2 * T + n) (k := 2 * n) (by omega)
  have e2 := Int.lt_mul_ediv_self_add (x := 2 * T + n) h2
  have e3 : 0 ≤ (2 * T + n) / (2 * n) := Int.ediv_nonneg (by omega) (by omega)
  have e4 : 2 * n * ((2 * T + n) / (2 * n)) = 2 * ((2 * T + n) / (2 * n) * n) := by rw [Int.mul_assoc, Int.mul_comm n]
  rw [e4] at e1 e2
  exact ⟨Int.mul_nonneg e3 (Int.le_of_lt hn), e1, e2⟩
theorem rm_mul {ns : List Int} (hn : 0 < (ns.length : Int)) : ∃ p : Int, 0 ≤ p ∧
    ((0 ≤ ns.sum ∧ rm ns * (ns.length : Int) = p ∧ 2 * p ≤ 2 * ns.sum + ns.length ∧ 2 * ns.sum + ns.length < 2 * p + 2 * ns.length) ∨
     (ns.sum < 0 ∧ rm ns * (ns.length : Int) = -p ∧ 2 * p ≤ -(2 * ns.sum) + ns.length ∧ -(2 * ns.sum) + ns.length < 2 * p + 2 * ns.length)) := by
  by_cases hs : 0 ≤ ns.sum
  · have e : (if -ns.sum > ns.sum then -ns.sum else ns.sum) = ns.sum := by split <;> omega
    obtain ⟨a, b, c⟩ := half_bounds hs hn
    refine ⟨_, a, .inl ⟨hs, ?_, b, c⟩⟩
    rw [rm, if_pos hs, e]
  · have e : (if -ns.sum > ns.sum then -ns.sum else ns.sum) = -ns.sum := by split <;> omega
    obtain ⟨a, b, c⟩ := half_bounds (T := -ns.sum) (by omega) hn
    refine ⟨_, a, .inr ⟨by omega, ?_, by omega, by omega⟩⟩
    rw [rm, if_neg hs, e, Int.neg_mul]
theorem yes_tie {ns : List Int} (hn : 0 < (ns.length : Int))
    (h : (2 * if ns.sum - rm ns * (ns.length : Int) < 0 then -(ns.sum - rm ns * (ns.length : Int)) else ns.sum - rm ns * (ns.length : Int)) = (ns.length : Int)) :
    IsYes (.bool (decide ((if ns.sum < 0 then -ns.sum else ns.sum) < if rm ns * (ns.length : Int) < 0 then -(rm ns * (ns.length : Int)) else rm ns * (ns.length : Int)))) := by
  refine congrArg Value.bool (decide_eq_true ?_)
  obtain ⟨p, hp, h1 | h1⟩ := rm_mul hn <;> obtain ⟨h1, h2, h3, h4⟩ := h1 <;> rw [h2] at h ⊢ <;> (repeat' split at h) <;> (repeat' split) <;> omega
theorem yes_near {ns : List Int} (hn : 0 < (ns.length : Int))
    (h : ¬ (2 * if ns.sum - rm ns * (ns.length : Int) < 0 then -(ns.sum - rm ns * (ns.length : Int)) else ns.sum - rm ns * (ns.length : Int)) = (ns.length : Int)) :
    IsYes (.bool (decide ((2 * if ns.sum - rm ns * (ns.length : Int) < 0 then -(ns.sum - rm ns * (ns.length : Int)) else ns.sum - rm ns * (ns.length : Int)) < (ns.length : Int)))) := by
  refine congrArg Value.bool (decide_eq_true ?_)
  obtain ⟨p, hp, h1 | h1⟩ := rm_mul hn <;> obtain ⟨h1, h2, h3, h4⟩ := h1 <;> rw [h2] at h ⊢ <;> (repeat' split at h) <;> (repeat' split) <;> omega
theorem rm_neg {ns ms : List Int} (hs : ms.sum = -ns.sum) (hl : ms.length = ns.length) : rm ms = 0 - rm ns := by
  unfold rm
  rw [hs, hl]
  by_cases h0 : ns.sum = 0
  · have : ((2 * (0 : Int) + (ns.length : Int)).fdiv (2 * (ns.length : Int))) = 0 := by
      rw [Int.fdiv_eq_ediv_of_nonneg _ (by omega)]
      by_cases hn : (ns.length : Int) = 0
      · rw [hn]; rfl
      · exact Int.ediv_eq_zero_of_lt (by omega) (by omega)
    have this' : ((ns.length : Int)).fdiv (2 * (ns.length : Int)) = 0 := by simpa using this
    rw [h0]
    simp [this']
  · by_cases h1 : 0 ≤ ns.sum
    · rw [if_pos h1, if_neg (by omega), if_pos (show - -ns.sum > -ns.sum by omega), if_neg (show ¬ -ns.sum > ns.sum by omega), Int.neg_neg]; omega
    · rw [if_neg h1, if_pos (by omega), if_neg (show ¬ - -ns.sum > -ns.sum by omega), if_pos (show -ns.sum > ns.sum by omega)]; omega
end Mine
namespace Mine
theorem sum_negs : ∀ ns : List Int, (ns.map fun a => 0 - a).sum = -ns.sum
  | [] => rfl
  | a :: r => by
    have h := sum_negs r
    rw [List.map_cons, List.sum_cons, List.sum_cons, h]
    omega
def IsNeg (ns : List Int) (v : Value) : Prop := ∃ t, v = .int (0 - rm ns) t
theorem neg_of {ns : List Int} {v : Value} (h : IsMean (ns.map fun a => 0 - a) v) : IsNeg ns v := by
  obtain ⟨t, rfl⟩ := h
  exact ⟨t, by rw [rm_neg (sum_negs ns) (List.length_map _)]⟩
theorem neg_pos {ns : List Int} {t : Tok} (h : 0 ≤ (ns.map fun a => 0 - a).sum) : IsNeg ns (.int (((2 * (if -(ns.map fun a => 0 - a).sum > (ns.map fun a => 0 - a).sum then -(ns.map fun a => 0 - a).sum else (ns.map fun a => 0 - a).sum)) + (ns.length : Int)).fdiv (2 * (ns.length : Int))) t) :=
  neg_of (by
    have q := mean_pos (t := t) h
    rw [List.length_map] at q
    exact q)
theorem neg_neg {ns : List Int} {t : Tok} (h : ¬ 0 ≤ (ns.map fun a => 0 - a).sum) : IsNeg ns (.int (-((2 * (if -(ns.map fun a => 0 - a).sum > (ns.map fun a => 0 - a).sum then -(ns.map fun a => 0 - a).sum else (ns.map fun a => 0 - a).sum)) + (ns.length : Int)).fdiv (2 * (ns.length : Int))) t) :=
  neg_of (by
    have q := mean_neg (t := t) h
    rw [List.length_map] at q
    exact q)
end Mine

namespace Mine
section
variable {h₀ : Heap} {L : Addr} {x d : Str} {m₀ : Str → Option Value} {s₁ : Shared} {h' : Heap} {tk : Nat}
/-- the end of a turn of the inner loop: a number stands behind the others -/
theorem inner_end {l q : Addr} {nn nq : Nat} {own own' : List (Addr × Obj)} {p0 : Addr × Obj} {vs : List Value} {ns pre : List Int} {k a b n : Int} {t u nt : Tok} {zz : Str → Option Value} {v1 v2 : Option Value}
    (F : Fr h₀ L h' (fun y => if y = d then v1 else if y = x then v2 else if [d].contains y then zz y else m₀ y))
    (N : News h₀ L h' (p0 :: (q, listOf (vs.toArray.push (.int n nt)) nq) :: (l, listOf #[.int a t, .int b u] nn) :: (own ++ own')))
    (hi : IntsAre vs ns) (hlen : ns.length = pre.length) (ha : 0 ≤ a) (hb : 0 ≤ b) (hb1 : b < 2147483647) :
    InvEndN h₀ L (KstS (rowLed q l nn own) (fun _ => []) (fun c => IntsAre c.2.2.2.2.1 c.2.2.2.2.2.1) x [d] m₀ (fun pre c => SrcOk c.1 c.2.2.1 ∧ c.2.2.2.2.2.1.length = pre.length) (pre ++ [k])) own' (q :: l :: own.map (·.1)) s₁ { s₁ with heap := h', toks := tk } := by
  rw [List.push_toArray] at N
  refine kst_end (a, t, b, u, vs ++ [.int n nt], ns ++ [n], nq) F N ?_ ?_ rfl (IntsAre.append hi (.cons _ _ .nil)) (fun _ h => nomatch h) ?_ ⟨⟨ha, hb, hb1⟩, ?_⟩
  · intro p hp
    rcases List.mem_cons.mp hp with rfl | hp
    · exact .tail _ (.head _)
    · rcases List.mem_cons.mp hp with rfl | hp
      · exact .tail _ (.tail _ (.head _))
      · exact .tail _ (.tail _ (.tail _ (List.mem_append.mpr (.inl hp))))
  · intro p hp
    exact .tail _ (.tail _ (.tail _ (List.mem_append.mpr (.inr hp))))
  · intro z h1 _ h3
    have h2 : z ≠ d := by
      intro e
      subst e
      simp at h3
    simp only [if_neg h1, if_neg h2, h3, Bool.false_eq_true, if_false]
  · simp [hlen]
end
end Mine

namespace Mine
theorem same_ne (a : Int) : ¬ ((a != a) = true) := by simp
section
variable {h₀ : Heap} {L : Addr} {x : Str} {m₀ : Str → Option Value} {s₁ : Shared} {h' : Heap} {tk : Nat}
/-- the end of a turn of the outer loop: the source has turned, the row is forgotten -/
theorem outer_end {l : Addr} {nn : Nat} {own : List (Addr × Obj)} {p0 p1 : Addr × Obj} {pre : List Int} {k a b : Int} {t u : Tok} {s1 s2 s3 s4 : Str} {z zz : Str → Option Value} {v1 v4 vx : Option Value}
    (F : Fr h₀ L h' (fun y => if y = s4 then v4 else if y = s2 then zz y else if [s3].contains y then zz y else if y = s1 then v1 else if y = x then vx else if [s1, s2, s3, s4].contains y then z y else m₀ y))
    (N : News h₀ L h' (p0 :: p1 :: (l, listOf #[.int a t, .int b u] nn) :: own)) (hok : SrcOk a b) :
    InvEndN h₀ L (KstS (srcLed l nn) (fun _ => []) (fun _ => True) x [s1, s2, s3, s4] m₀ (fun _ c => SrcOk c.1 c.2.2.1) (pre ++ [k])) own [l] s₁ { s₁ with heap := h', toks := tk } := by
  refine kst_end (a, t, b, u) F N ?_ ?_ rfl trivial (fun _ h => nomatch h) ?_ hok
  · intro p hp
    rw [List.mem_singleton.mp hp]
    exact .tail _ (.tail _ (.head _))
  · intro p hp
    exact .tail _ (.tail _ (.tail _ hp))
  · intro y h1 _ h3
    simp only [List.contains_cons, List.contains_nil, Bool.or_false, Bool.or_eq_false_iff, beq_eq_false_iff_ne, ne_eq] at h3
    obtain ⟨e1, e2, e3, e4⟩ := h3
    simp [h1, e1, e2, e3, e4]
end
end Mine

namespace Mine
def IsInt (v : Value) : Prop := ∃ (z : Int) (t : Tok), v = .int z t
theorem isInt {z : Int} {t : Tok} : IsInt (.int z t) := ⟨z, t, rfl⟩
theorem one_or_nought (a : Int) (c : Prop) [Decidable c] : IntMulOk a (if c then 1 else 0) :=
  IntMulOk.of_right (intBits_le_64 (by split <;> omega) (by split <;> omega))
end Mine

-- one step of the walk; the walk until a place; the walk to the ends
local macro_rules | `(tactic| walk_at "MY STEP") => `(tactic| first | (k_unfold; (try dsimp only)) | (k_end; wrow_close) | walk1 | (dsimp only; walk1) | (leave1; (try dsimp only)))
local macro_rules | `(tactic| walk_at "MY WAY") => `(tactic| repeat' (walk_at "MY STEP"))
local macro_rules | `(tactic| walk_at "MY WAY TO IfExp") => `(tactic| repeat' ((fail_if_success (with_reducible show wpAny _ _ (eval (Expr.IfExp _ (Expr.Subscript _ _ _) _ _) _) _ _ _)); walk_at "MY STEP"))
local macro_rules | `(tactic| walk_at "MY WAY TO For") => `(tactic| repeat' ((fail_if_success (with_reducible show wpAny _ _ (exec (Stmt.For _ _ _ _ _) _) _ _ _)); walk_at "MY STEP"))
local macro_rules | `(tactic| walk_at "MY WAY TO iter") => `(tactic| repeat' ((fail_if_success (with_reducible show wpAny _ _ (pyIter _) _ _ _)); walk_at "MY STEP"))
local macro_rules | `(tactic| walk_at "MY WAY TO call") => `(tactic| repeat' ((fail_if_success (with_reducible show wpAny _ _ (call (Value.ref _) _) _ _ _)); walk_at "MY STEP"))
local macro_rules | `(tactic| walk_at "MY WAY TO range") => `(tactic| repeat' ((fail_if_success (with_reducible show wpAny _ _ (call (Value.type "range") _) _ _ _)); walk_at "MY STEP"))
local macro_rules | `(tactic| walk_at "MY WAY TO item") => `(tactic| repeat' ((fail_if_success (with_reducible show wpAny _ _ (subscriptTail _ _ _ _) _ _ _)); walk_at "MY STEP"))
local macro_rules | `(tactic| walk_at "MY WAY TO row") => `(tactic| repeat' ((fail_if_success (with_reducible show wpAny _ _ (eval (Expr.ListComp _ _ _ _) _) _ _ _)); walk_at "MY STEP"))
local macro_rules | `(tactic| walk_at "MY WAY TO end") => `(tactic| repeat' ((fail_if_success (with_reducible show InvEndN _ _ _ _ _ _ _)); walk_at "MY STEP"))

-- places where the library's line burns, or lacks a fact
local macro_rules | `(tactic| walk_at "binaryOp Pow int int") => `(tactic| (k_here; with_reducible refine pow_int_small (by decide) (by decide) (by decide) ?_))
local macro_rules | `(tactic| walk_at "binaryOp Mult int int") => `(tactic| (k_here; (with_reducible show wpAny _ _ (binaryOp Operator.Mult (Value.int (List.getD _ _ _) _) (Value.int (List.getD _ _ _) _)) _ _ _); with_unfolding_all refine' mul_int ?_ (Mine.sq_ok _ _)))
local macro_rules | `(tactic| walk_at "binaryOp Mult int int") => `(tactic| (k_here; with_reducible refine mul_int ?_ (Mine.one_or_nought _ _)))
local macro_rules | `(tactic| walk_at "ite") => `(tactic| with_reducible refine ite_neg (Mine.same_ne _) ?_)
-- the ends of the cuts
local macro_rules | `(tactic| walk_at "TakeOut") => `(tactic| (with_unfolding_all first
  | exact Mine.take_end_old (by assumption) (by assumption) (by assumption) (by decide) (by assumption) (by assumption)
  | exact Mine.take_end_new (by assumption) (by assumption) (by assumption) (by decide)))
local macro_rules | `(tactic| walk_at "ValOut") => `(tactic| (with_unfolding_all first
  | exact Mine.val_end (by assumption) (by assumption) (Mine.mean_pos (by assumption))
  | exact Mine.val_end (by assumption) (by assumption) (Mine.mean_neg (by assumption))
  | exact Mine.val_end (by assumption) (by assumption) (Mine.yes_tie (by assumption) (by assumption))
  | exact Mine.val_end (by assumption) (by assumption) (Mine.yes_near (by assumption) (by assumption))
  | exact Mine.val_end (by assumption) (by assumption) (Mine.neg_pos (by assumption))
  | exact Mine.val_end (by assumption) (by assumption) (Mine.neg_neg (by assumption))
  | exact Mine.val_end (by assumption) (by assumption) Mine.isInt))

set_option maxRecDepth 100000 in
set_option maxHeartbeats 8000000 in
theorem PySem.Challenge.cw_xm0783_01_holds : PySem.Challenge.rw_xm0783_01.Holds := by
  w_on
  o_law
  k_head
  (case hw => w_witness2)
  w_strict (
    k_go0
    all_goals try k_fold
    -- the first cell, or nought: one way
    walk_at "MY WAY TO IfExp"
    (rename Fr _ _ _ _ => lF')
    (rename News _ _ _ _ => lN')
    (with_unfolding_all refine' Mine.val_cut Mine.IsInt lF' lN' ?cell ?rest)
    case cell =>
      walk_at "MY STEP"
      walk_at "MY WAY"
    case rest =>
    rintro _ h tk ⟨cell, ct, rfl⟩ F N
    (try dsimp only at F)
    (try dsimp only at N)
    (try k_fold)
    walk_at "MY WAY TO For"
    kpr_for
    walk_at "MY WAY TO iter"
    (rename Fr _ _ _ _ => lF')
    (rename News _ _ _ _ => lN')
    (rename IsRange _ _ _ _ _ _ _ _ => rgX)
    (with_unfolding_all refine' Mine.outer_loop [Str.ofString "numbers", Str.ofString "place", Str.ofString "drawn", Str.ofString "told"] (by rfl) rgX lF' lN' ?start ?turn ?done)
    case start => exact Mine.src_start _
    case done =>
      intro a ta b tb zz h tk hok F N
      (try dsimp only at F)
      (try dsimp only at N)
      (try k_fold)
      clear hok
      walk_at "MY WAY"
    case turn =>
    intro a ta b tb k kt z h tk own pre hoff hok F N
    (try dsimp only at F)
    (try dsimp only at N)
    (try k_fold)
    obtain ⟨ha0, hb0, hb1⟩ := hok
    -- the row's length
    walk_at "MY WAY TO call"
    (rename Fr _ _ _ _ => lF')
    (rename News _ _ _ _ => lN')
    (with_unfolding_all refine' Mine.take_cut [_] lF' lN' ?take ?taken)
    case take =>
      (refine wpAny_call ?_; k_enter)
      walk_at "MY WAY"
    case taken =>
    intro x xt a ta b tb h tk hx0 hx1 hok F N
    (try simp only [List.nil_append, List.cons_append] at N)
    (try k_fold)
    obtain ⟨ha0, hb0, hb1⟩ := hok
    walk_at "MY WAY TO range"
    (rename Fr _ _ _ _ => F')
    (rename News _ _ _ _ => N')
    (with_unfolding_all refine range1_rows F' N' ?_; intro _ _ _ _ _ _ _ _ _)
    (rename Fr _ _ _ _ => lF')
    (rename News _ _ _ _ => lN')
    (rename IsRange _ _ _ _ _ _ _ _ => rgX)
    (with_unfolding_all refine' Mine.inner_loop [Str.ofString "drawn"] (by rfl) rgX lF' lN' ⟨ha0, hb0, hb1⟩ (by omega) (by omega) ?iturn ?idone)
    case iturn =>
      intro a ta b tb vs ns nq k kt z h tk own' pre hoff hok hi hlen hlt F N
      (try dsimp only at F)
      (try dsimp only at N)
      (try k_fold)
      obtain ⟨ha0, hb0, hb1⟩ := hok
      have kMark := PySem.W.kstMark
      -- the number drawn
      walk_at "MY WAY TO call"
      (rename Fr _ _ _ _ => lF')
      (rename News _ _ _ _ => lN')
      (with_unfolding_all refine' Mine.take_cut [_] lF' lN' ?draw ?drawn)
      case draw =>
        (refine wpAny_call ?_; k_enter)
        walk_at "MY WAY"
      case drawn =>
      intro x xt a ta b tb h tk hx0 hx1 hok F N
      (try simp only [List.nil_append, List.cons_append] at N)
      (try k_fold)
      clear hx0 hx1
      obtain ⟨ha0, hb0, hb1⟩ := hok
      -- one of five
      walk_at "MY WAY TO call"
      walk_at "MY STEP"
      walk_at "MY WAY TO call"
      (rename Fr _ _ _ _ => lF')
      (rename News _ _ _ _ => lN')
      (with_unfolding_all refine' Mine.take_cut [_, _] lF' lN' ?pick ?picked)
      case pick =>
        (refine wpAny_call ?_; k_enter)
        walk_at "MY WAY"
      case picked =>
      intro x1 xt a ta b tb h tk hx0 hx1 hok F N
      (try simp only [List.nil_append, List.cons_append] at N)
      (try k_fold)
      obtain ⟨ha0, hb0, hb1⟩ := hok
      walk_at "MY WAY TO item"
      (with_unfolding_all refine' Mine.item5 N hx0 hx1 ?_)
      intro z zt
      clear hx0 hx1
      walk_at "MY WAY TO end"
      (rename Fr _ _ _ _ => lF')
      (rename News _ _ _ _ => lN')
      (with_unfolding_all exact Mine.inner_end lF' lN' hi hlen ha0 hb0 hb1)
    case idone =>
    intro a ta b tb vs ns nq zz h tk hok hi hlen F N
    (try dsimp only at F)
    (try dsimp only at N)
    (try k_fold)
    have kMark := PySem.W.kstMark
    have hn : 0 < (ns.length : Int) := by omega
    -- told
    walk_at "MY WAY TO call"
    (rename Fr _ _ _ _ => lF')
    (rename News _ _ _ _ => lN')
    (with_unfolding_all refine' Mine.val_cut (Mine.IsMean ns) lF' lN' ?mean ?meant)
    case mean =>
      (refine wpAny_call ?_; k_enter)
      walk_at "MY WAY"
    case meant =>
    rintro _ h tk ⟨mt, rfl⟩ F N
    (try dsimp only at F)
    (try dsimp only at N)
    (try k_fold)
    -- it is the mean
    walk_at "MY WAY TO call"
    (rename Fr _ _ _ _ => lF')
    (rename News _ _ _ _ => lN')
    (with_unfolding_all refine' Mine.val_cut Mine.IsYes lF' lN' ?ask ?asked)
    case ask =>
      (refine wpAny_call ?_; k_enter)
      walk_at "MY WAY"
    case asked =>
    rintro _ h tk rfl F N
    (try dsimp only at F)
    (try dsimp only at N)
    (try k_fold)
    -- the numbers with the other sign
    walk_at "MY WAY TO row"
    (try k_iter_made)
    (with_reducible apply ListComp_DCn)
    (case hh => with_unfolding_all rfl)
    (case hclos => with_unfolding_all rfl)
    (case hcell => decide)
    (case hkind => with_unfolding_all rfl)
    (case hnames => decide)
    (case hx => with_unfolding_all rfl)
    (case hs => intro _; with_unfolding_all rfl)
    (case' h => with_reducible refine wpAny_compPack ?_)
    walk_at "MY WAY TO call"
    (with_reducible rename NewPlain _ _ _ _ => gnP)
    (have gnX := gn_enter gnP (by assumption) (by assumption) (by assumption))
    (obtain ⟨gnN, gnL, gnA⟩ := gnX)
    (have gnI := gn_ints gnP (by assumption) (by intro _; rfl))
    (have gnI' := IntsAre.length gnI)
    clear gnP
    clear gnA
    (rename Fr _ _ _ _ => lF')
    (with_unfolding_all refine' Mine.val_cut (Mine.IsNeg ns) lF' gnL ?neg ?negd)
    case neg =>
      (refine wpAny_call ?_; k_enter)
      walk_at "MY WAY"
    case negd =>
    rintro _ h tk ⟨mt2, rfl⟩ F N
    (try dsimp only at F)
    (try dsimp only at N)
    (try k_fold)
    walk_at "MY WAY TO end"
    (rename Fr _ _ _ _ => lF')
    (rename News _ _ _ _ => lN')
    (with_unfolding_all exact Mine.outer_end lF' lN' hok))
