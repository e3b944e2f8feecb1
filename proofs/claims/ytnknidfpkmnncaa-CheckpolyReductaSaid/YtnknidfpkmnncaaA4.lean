/- append onto a row of the call's own from a slice that reads as a list; natural.Of, Normal. -/
import Derived.Test.YtnknidfpkmnncaaA3
import Derived.RegionTactic
import Derived.OwnWalk
namespace Go.Proofs.Ytnknidfpkmnncaa
open Go.RowKit

section
variable {P : Program} (w : World)

theorem run_append_of_nil (base : Nat) (t ty e : TypeId) (i : TypeInfo) (size : Nat) (ht : P.underlying t = some (.slice e)) (hi : P.info? e = some i)
    (v : Value) (n : Nat) (xs : List Value) (hown : w.ownsRow base e size v n xs) (c : Nat) : (Builtin.append_ #[t, t] ty #[v, .slice none 0 c]).run P w = .ok v w := by
  rcases hown.2 with ⟨rfl, rfl⟩ | ⟨g, cap, cur, rfl, _, _, hnc, _⟩
  · simp [Builtin.append_, run_underlying ht, sizeOf, typeInfo, hi, Builtin.lenOf, Builtin.firstCells]
  · simp [Builtin.append_, run_underlying ht, sizeOf, typeInfo, hi, Builtin.lenOf, Builtin.firstCells, hnc, storeCells]

theorem run_append_row (base : Nat) (t ty e : TypeId) (i : TypeInfo) (z : Value) (size bytes : Nat) (ht : P.underlying t = some (.slice e)) (hi : P.info? e = some i) (hz : i.zero = some z)
    (hsize : i.size = size) (hby : i.bytes = bytes) (hzs : z.cells.size = size) (hsz : 0 < size)
    (v : Value) (n : Nat) (xs : List Value) (hown : w.ownsRow base e size v n xs)
    (B T : Nat) (A : Option Addr) (m c : Nat) (news : List Value) (hr : Row B T w A m c size news) (h1 : ∀ u ∈ news, u.oneCell' = true)
    (h63 : n + m ≤ maxLen) (hbytes : (n + m) * bytes ≤ 140737488355328) (hbase : base ≤ w.heap.size) :
    ∃ v' w', (Builtin.append_ #[t, t] ty #[v, .slice A m c]).run P w = .ok v' w' ∧ w'.ownsRow base e size v' (n + m) (xs ++ news) ∧ w.grownBy w' v.ownBlock ∧
      (v'.ownBlock = v.ownBlock ∨ v'.ownBlock = some w.heap.size) := by
  rcases A with _ | ad
  · have hm : m = 0 := by
      rcases Nat.eq_zero_or_pos m with h0 | h0
      · exact h0
      · obtain ⟨ad, h, _⟩ := hr.cell h0
        cases h
    subst hm
    have hn : news = [] := List.eq_nil_of_length_eq_zero (by simpa using hr.len)
    subst hn
    exact ⟨v, w, run_append_of_nil w base t ty e i size ht hi v n xs hown c, by simpa using hown, World.grownBy.refl w _, .inl rfl⟩
  · have hcells : ∀ j u, news[j]? = some u → w.cell? (ad.add j) = some u := by
      intro j u hu
      rcases Nat.eq_zero_or_pos m with h0 | h0
      · subst h0
        have hn : news = [] := List.eq_nil_of_length_eq_zero (by simpa using hr.len)
        subst hn
        simp at hu
      · obtain ⟨ad', h, _, hc⟩ := hr.cell h0
        injection h with h
        subst h
        exact hc j u hu
    obtain ⟨v', w', hrun, h2, h3, _, h5⟩ := run_append_own_at (P := P) w base t ty e i z size bytes ht hi hz hsize hby hzs hsz v n xs hown ad m c news hr.len hcells h1 h63 hbytes hbase
    exact ⟨v', w', hrun, h2, h3, h5⟩

theorem wp_append_row {o : Oper} {a : Act} {K : Act → World → Prop} {Q : Exit → Act → World → Prop} (s x : Operand) (t : TypeId)
    (ho : o.op = .call { callee := .builtin .append, args := #[s, x], argTypes := #[t, t] })
    (base : Nat) (e : TypeId) (i : TypeInfo) (z : Value) (size bytes : Nat) (ht : P.underlying t = some (.slice e)) (hi : P.info? e = some i) (hz : i.zero = some z)
    (hsize : i.size = size) (hby : i.bytes = bytes) (hzs : z.cells.size = size) (hsz : 0 < size)
    (v : Value) (n : Nat) (xs : List Value) (hs : a.eval s = v) (hown : w.ownsRow base e size v n xs)
    (B T : Nat) (A : Option Addr) (m c : Nat) (news : List Value) (hx : a.eval x = .slice A m c) (hr : Row B T w A m c size news) (h1 : ∀ u ∈ news, u.oneCell' = true)
    (h63 : n + m ≤ maxLen) (hbytes : (n + m) * bytes ≤ 140737488355328) (hbase : base ≤ w.heap.size)
    (h : ∀ v' w', w'.ownsRow base e size v' (n + m) (xs ++ news) → w.grownBy w' v.ownBlock → (v'.ownBlock = v.ownBlock ∨ v'.ownBlock = some w.heap.size) → K (a.put o.dst v') w') : o.wp P a w K Q := by
  obtain ⟨v', w', hrun, h2, h3, h4⟩ := run_append_row (P := P) w base t o.type e i z size bytes ht hi hz hsize hby hzs hsz v n xs hown B T A m c news hr h1 h63 hbytes hbase
  unfold Oper.wp execOp
  simp only [ho, resolve, invoke, builtin, Sem.run_bind, Sem.run_pure, Result.andThen_ok, List.map_toArray, List.map_cons, List.map_nil, hs, hx, hrun]
  exact h v' w' h2 h3 h4

theorem wpList_append_row {ops : Array Oper} {rest : List Oper} {o : Oper} {a : Act} {Q : Exit → Act → World → Prop} (hgd : o.guard = none) (s x : Operand) (t : TypeId)
    (ho : o.op = .call { callee := .builtin .append, args := #[s, x], argTypes := #[t, t] })
    (base : Nat) (e : TypeId) (i : TypeInfo) (z : Value) (size bytes : Nat) (ht : P.underlying t = some (.slice e)) (hi : P.info? e = some i) (hz : i.zero = some z)
    (hsize : i.size = size) (hby : i.bytes = bytes) (hzs : z.cells.size = size) (hsz : 0 < size)
    (v : Value) (n : Nat) (xs : List Value) (hs : a.eval s = v) (hown : w.ownsRow base e size v n xs)
    (B T : Nat) (A : Option Addr) (m c : Nat) (news : List Value) (hx : a.eval x = .slice A m c) (hr : Row B T w A m c size news) (h1 : ∀ u ∈ news, u.oneCell' = true)
    (h63 : n + m ≤ maxLen) (hbytes : (n + m) * bytes ≤ 140737488355328) (hbase : base ≤ w.heap.size)
    (h : ∀ v' w', w'.ownsRow base e size v' (n + m) (xs ++ news) → w.grownBy w' v.ownBlock → (v'.ownBlock = v.ownBlock ∨ v'.ownBlock = some w.heap.size) → wpList P ops Q rest (a.put o.dst v') w') : wpList P ops Q (o :: rest) a w :=
  wpList_plain hgd fun _ hK => wp_append_row w s x t ho base e i z size bytes ht hi hz hsize hby hzs hsz v n xs hs hown B T A m c news hx hr h1 h63 hbytes hbase fun v' w' h2 h3 h4 => hK _ _ (h v' w' h2 h3 h4)
end

theorem Row.new (B T : Nat) (w : World) (n z : Nat) (cs : Array Value) (hl : cs.size = n * z) (hn : n ≤ 9223372036854775807) : Row B T (w.alloc (.cells cs T)) (some ⟨w.heap.size, 0, none⟩) n n z cs.toList := by
  refine ⟨by simpa using hl, Nat.le_refl _, hn, fun _ => ⟨_, rfl, .inr ⟨cs, heap_alloc_new w _⟩, fun k u hu => ?_⟩⟩
  have h := heap_alloc_new w (.cells cs T)
  have ha : (⟨w.heap.size, 0, none⟩ : Addr).add k = ⟨w.heap.size, k, none⟩ := by unfold Addr.add; split <;> simp_all
  rw [ha, cell_of_row _ _ k cs T (0, 0) h]
  simpa using hu

theorem own_slice {w : World} {base n : Nat} {e : TypeId} {size : Nat} {v : Value} {xs : List Value} (h : w.ownsRow base e size v n xs) : ∃ A c, v = .slice A n c := by
  rcases h.2 with ⟨rfl, rfl⟩ | ⟨g, cap, cur, rfl, _⟩
  · exact ⟨none, 0, rfl⟩
  · exact ⟨_, cap, rfl⟩

theorem of_any (B n : Nat) (w : World) (hn : n < 18446744073709551616) :
    Calls Try.prog 59 #[.int .u64 n] w (NatP B n w) := by
  have hv : val [n % 4294967296, n / 4294967296] = n := by simp only [val]; omega
  have HV := Lib.hid hv
  clear hv
  go_enter Try.func59, Try.ntmps59
  go_wp2_with fail
  have hd : Dig B (w.alloc (.cells #[.int .u32 ((n : Int) % 4294967296), .int .u32 ((n : Int) / 4294967296)] 109)) (some ⟨w.heap.size, 0, none⟩) 2 2 [n % 4294967296, n / 4294967296] := by
    refine ⟨?_, Lt32.cons (by omega) (Lt32.cons (by omega) Lt32.nil)⟩
    have := Row.new B 109 w 2 1 #[.int .u32 ((n : Int) % 4294967296), .int .u32 ((n : Int) / 4294967296)] rfl (by omega)
    exact this
  refine (trim_any B _ _ _ _ _ hd).mono ?_
  rintro e w' ⟨A', n', c', rfl, h', rfl⟩
  clear hd
  go_wp2
  go_ret
  rw [HV.out] at h'
  exact ⟨A', n', c', rfl, h', (Below.refl _ _).alloc (Nat.le_refl _) _⟩

theorem u32info : (Try.prog.info? 109).map (fun i => (i.zero, i.size, i.bytes)) = some (some (.int .u32 0), 1, 4) := by kernel_rfl

theorem normal_any (B : Nat) (A : Option Addr) (n c : Nat) (xs : List Nat) (w : World) (h : Dig B w A n c xs) (hl : n ≤ 1099511627776) :
    Calls Try.prog 82 #[.slice A n c] w (NatP B (val xs) w) := by
  obtain ⟨i0, hi, hz0, hz1, hz2⟩ := info_parts u32info
  have hlb : (digs (val xs)).length ≤ n := by
    have := val_lt h.dig
    rw [h.len] at this
    exact digs_length_le this
  go_enter Try.func82, Try.ntmps82
  go_wp2_with fail
  refine (trim_any B _ _ _ _ _ h).mono ?_
  rintro e w' ⟨A', n', c', rfl, h', rfl⟩
  have hn' : n' ≤ n := by rw [← h'.len]; exact hlb
  generalize val xs = m at *
  clear hlb h
  go_wp2_with (at_builtin; refine wpList_append_row _ rfl _ _ 44 rfl w.heap.size 109 i0 (.int .u32 0) 1 4 Try.underlying44 hi hz0 hz1 hz2 rfl (by decide) (.slice none 0 0) 0 [] rfl (World.ownsRow_nil _ _ _ _) B _ A' n' c' (digCells (digs m)) rfl h'.row (digCells_one _) (by simp only [maxLen]; omega) (by omega) (Nat.le_refl _) ?_; intro v1 w1 hown hg _)
  rw [Nat.zero_add, List.nil_append] at hown
  obtain ⟨A2, c2, rfl⟩ := own_slice hown
  go_wp2
  go_ret
  exact ⟨A2, n', c2, rfl, Dig.of_own hown h'.dig, (Below.refl _ _).grown hg (Nat.le_refl _) (by simp [Value.ownBlock])⟩
end Go.Proofs.Ytnknidfpkmnncaa
