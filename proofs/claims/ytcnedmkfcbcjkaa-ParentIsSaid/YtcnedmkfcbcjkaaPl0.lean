/- OCTETS AND NUMBERS, in plain words: how long something is; octets with their length ahead; numbers of four octets. -/
namespace Go.Proofs.Ytcnedmkfcbcjkaa.Pl
abbrev Bytes := List UInt8
def byte (n : Nat) : UInt8 := UInt8.ofNat n
theorem byte_toNat (n : Nat) : (byte n).toNat = n % 256 := by simp [byte]
def vsize (n : Int) : Int := if n < 0 ∨ n > 1073741823 then 0 else if n < 64 then 1 else if n < 16384 then 2 else 4
def vput (n : Nat) : Bytes :=
  if n > 1073741823 then [] else if n < 64 then [byte n] else if n < 16384 then [byte (64 + n / 256), byte n] else [byte (128 + n / 16777216), byte (n / 65536), byte (n / 256), byte n]
def num (n : Nat) (l : Bytes) : Nat := l.foldl (fun n x => n * 256 + x.toNat) n
def width (x : UInt8) : Nat := if x.toNat < 64 then 1 else if x.toNat < 128 then 2 else if x.toNat < 192 then 4 else 0
def vget : Bytes → Nat × Bytes × Int
  | [] => (0, [], 1)
  | x :: r => if width x = 0 then (0, [], 2) else if (x :: r).length < width x then (0, [], 1) else
    if vsize (num (x.toNat % 64) (r.take (width x - 1))) = width x then (num (x.toNat % 64) (r.take (width x - 1)), r.drop (width x - 1), 0) else (0, [], 2)
def getBytes (b : Bytes) : Bytes × Bytes × Int :=
  if (vget b).2.2 ≠ 0 then ([], [], (vget b).2.2) else if (vget b).1 > 1048576 then ([], [], 4) else if (vget b).1 > (vget b).2.1.length then ([], [], 1) else
    ((vget b).2.1.take (vget b).1, (vget b).2.1.drop (vget b).1, 0)
def putBytes (v : Bytes) : Bytes := if v.length > 1048576 then [] else vput v.length ++ v

theorem vput_len {n : Nat} (h : n ≤ 1073741823) : (vput n).length = if n < 64 then 1 else if n < 16384 then 2 else 4 := by
  unfold vput
  split
  · omega
  · split
    · simp [*]
    · split <;> simp [*]
theorem vget_vput {n : Nat} (h : n ≤ 1073741823) (t : Bytes) : vget (vput n ++ t) = (n, t, 0) := by
  unfold vput
  split
  · omega
  · split
    · have h1 : width (byte n) = 1 := by simp [width, byte_toNat]; omega
      have h2 : (byte n).toNat % 64 = n := by simp [byte_toNat]; omega
      have h3 : vsize (n : Int) = 1 := by unfold vsize; repeat' split
                                          all_goals omega
      simp [vget, h1, num, h2, h3]
    · split
      · have h1 : width (byte (64 + n / 256)) = 2 := by simp only [width, byte_toNat]; rw [if_neg (by omega), if_pos (by omega)]
        have h2 : (byte (64 + n / 256)).toNat % 64 * 256 + (byte n).toNat = n := by simp only [byte_toNat]; omega
        have h3 : vsize (n : Int) = 2 := by unfold vsize; repeat' split
                                            all_goals omega
        simp [vget, h1, num, h2, h3]
      · have h1 : width (byte (128 + n / 16777216)) = 4 := by simp only [width, byte_toNat]; rw [if_neg (by omega), if_neg (by omega), if_pos (by omega)]
        have h2 : (((byte (128 + n / 16777216)).toNat % 64 * 256 + (byte (n / 65536)).toNat) * 256 + (byte (n / 256)).toNat) * 256 + (byte n).toNat = n := by simp only [byte_toNat]; omega
        have h3 : vsize (n : Int) = 4 := by unfold vsize; repeat' split
                                            all_goals omega
        simp [vget, h1, num, h2, h3]
theorem vput_short {n : Nat} (h : n ≤ 1073741823) {p : Bytes} (hp : p <+: vput n) (hl : p.length < (vput n).length) : vget p = (0, [], 1) := by
  cases p with
  | nil => rfl
  | cons x p =>
    obtain ⟨t, ht⟩ := hp
    have hw : width x = (vput n).length := by
      rw [vput_len h]
      unfold vput at ht
      split at ht
      · omega
      · split at ht
        · simp only [List.cons_append, List.cons.injEq] at ht
          rw [ht.1]
          simp only [width, byte_toNat]
          split <;> omega
        · split at ht
          · simp only [List.cons_append, List.cons.injEq] at ht
            rw [ht.1]
            simp only [width, byte_toNat]
            repeat' split
            all_goals omega
          · simp only [List.cons_append, List.cons.injEq] at ht
            rw [ht.1]
            simp only [width, byte_toNat]
            repeat' split
            all_goals omega
    have h0 : width x ≠ 0 := by rw [hw]; omega
    have h1 : (x :: p).length < width x := by rw [hw]; exact hl
    simp only [vget, if_neg h0, if_pos h1]
/-- What is got was put. -/
theorem vget_only {b r : Bytes} {n : Nat} (h : vget b = (n, r, 0)) : n ≤ 1073741823 ∧ b = vput n ++ r := by
  cases b with
  | nil => simp [vget] at h
  | cons x t =>
    have hx : x.toNat < 256 := x.toNat_lt
    simp only [vget] at h
    split at h
    · simp at h
    · split at h
      · simp at h
      · rename_i h0 h1
        split at h
        · rename_i h2
          simp only [Prod.mk.injEq, and_true] at h
          obtain ⟨hn, hr⟩ := h
          have hb : ∀ (m : Nat), m % 256 = x.toNat → byte m = x := fun m hm => UInt8.toNat_inj.1 (by rw [byte_toNat, hm])
          have hy : ∀ (m : Nat) (y : UInt8), m % 256 = y.toNat → byte m = y := fun m y hm => UInt8.toNat_inj.1 (by rw [byte_toNat, hm])
          rw [hn] at h2
          unfold width at h0 h1 h2 hn hr
          split at h2
          · rename_i hs
            simp only [hs, if_true, Nat.sub_self, List.take_zero, List.drop_zero, num, List.foldl_nil] at hn hr
            subst hr
            have : n = x.toNat := by omega
            refine ⟨by omega, ?_⟩
            unfold vput
            rw [if_neg (by omega), if_pos (by omega)]
            simp [hb n (by omega)]
          · rename_i hs
            split at h2
            · rename_i hs2
              simp only [hs, hs2, if_true, if_false] at hn hr h1
              match t, h1 with
              | [], h1 => simp at h1
              | y :: t, _ =>
                have hyl : y.toNat < 256 := y.toNat_lt
                simp [num] at hn hr
                subst hr
                have hv : n ≥ 64 := by
                  unfold vsize at h2
                  repeat' split at h2
                  all_goals omega
                refine ⟨by omega, ?_⟩
                unfold vput
                rw [if_neg (by omega), if_neg (by omega), if_pos (by omega)]
                simp [hb (64 + n / 256) (by omega), hy n y (by omega)]
            · rename_i hs2
              split at h2
              · rename_i hs3
                simp only [hs, hs2, hs3, if_true, if_false] at hn hr h1
                match t, h1 with
                | [], h1 => simp at h1
                | [_], h1 => simp at h1
                | [_, _], h1 => simp at h1
                | y1 :: y2 :: y3 :: t, _ =>
                  have l1 : y1.toNat < 256 := y1.toNat_lt
                  have l2 : y2.toNat < 256 := y2.toNat_lt
                  have l3 : y3.toNat < 256 := y3.toNat_lt
                  simp [num] at hn hr
                  subst hr
                  have hv : n ≥ 16384 ∧ n ≤ 1073741823 := by
                    unfold vsize at h2
                    repeat' split at h2
                    all_goals omega
                  refine ⟨by omega, ?_⟩
                  unfold vput
                  rw [if_neg (by omega), if_neg (by omega), if_neg (by omega)]
                  simp [hb (128 + n / 16777216) (by omega), hy (n / 65536) y1 (by omega), hy (n / 256) y2 (by omega), hy n y3 (by omega)]
              · rename_i hs3
                simp only [hs, hs2, hs3, if_false, not_true_eq_false] at h0
        · simp at h
theorem vget_err {b : Bytes} (h : (vget b).2.2 ≠ 0) : vget b = (0, [], (vget b).2.2) := by
  cases b with
  | nil => rfl
  | cons x t =>
    simp only [vget] at h ⊢
    repeat' split
    all_goals first | rfl | skip
    rename_i h1 h2 h3
    rw [if_neg h1, if_neg h2, if_pos h3] at h
    exact absurd rfl h
theorem getBytes_put {v : Bytes} (h : v.length ≤ 1048576) (t : Bytes) : getBytes (putBytes v ++ t) = (v, t, 0) := by
  unfold putBytes
  rw [if_neg (by omega), List.append_assoc]
  unfold getBytes
  rw [vget_vput (by omega)]
  rw [if_neg (by simp), if_neg (by simp; omega), if_neg (by simp)]
  simp
theorem getBytes_short {v : Bytes} (h : v.length ≤ 1048576) {p : Bytes} (hp : p <+: putBytes v) (hl : p.length < (putBytes v).length) : getBytes p = ([], [], 1) := by
  unfold putBytes at hp hl
  rw [if_neg (by omega)] at hp hl
  rcases Nat.lt_or_ge p.length (vput v.length).length with hlt | hge
  · have : vget p = (0, [], 1) := vput_short (n := v.length) (by omega) (List.prefix_of_prefix_length_le hp (List.prefix_append _ _) (by omega)) hlt
    simp [getBytes, this]
  · obtain ⟨q, rfl⟩ := List.prefix_of_prefix_length_le (List.prefix_append _ v) hp hge
    unfold getBytes
    rw [vget_vput (by omega)]
    rw [List.length_append, List.length_append] at hl
    rw [if_neg (by simp), if_neg (by simp; omega), if_pos (by simp; omega)]
theorem getBytes_only {b v r : Bytes} (h : getBytes b = (v, r, 0)) : v.length ≤ 1048576 ∧ b = putBytes v ++ r := by
  unfold getBytes at h
  split at h
  · rename_i he
    simp only [Prod.mk.injEq] at h
    exact absurd h.2.2 he
  · rename_i he
    split at h
    · simp at h
    · split at h
      · simp at h
      · rename_i h1 h2
        rcases hv : vget b with ⟨n, r', e⟩
        rw [hv] at h h1 h2 he
        simp only [Prod.mk.injEq, and_true, ne_eq, Decidable.not_not] at h h1 h2 he
        subst he
        obtain ⟨rfl, rfl⟩ := h
        obtain ⟨k1, k2⟩ := vget_only hv
        have hl : (r'.take n).length = n := by simp; omega
        refine ⟨by omega, ?_⟩
        unfold putBytes
        rw [hl, if_neg (by omega), k2, List.append_assoc, List.take_append_drop]
theorem getBytes_err {b : Bytes} (h : (getBytes b).2.2 ≠ 0) : getBytes b = ([], [], (getBytes b).2.2) := by
  unfold getBytes at h ⊢
  repeat' split
  all_goals first | rfl | skip
  all_goals simp_all

/-! ### Numbers of four octets. -/
def be4 (n : Int) : Bytes := [byte (n / 16777216 % 256).toNat, byte (n / 65536 % 256).toNat, byte (n / 256 % 256).toNat, byte (n % 256).toNat]
def chunks : Bytes → List Int
  | a :: b :: c :: d :: l => (num 0 [a, b, c, d] : Int) :: chunks l
  | _ => []
def getNums (b : Bytes) : List Int × Bytes × Int :=
  if (getBytes b).2.2 ≠ 0 then ([], [], (getBytes b).2.2) else if (getBytes b).1.length % 4 ≠ 0 then ([], [], 2) else (chunks (getBytes b).1, (getBytes b).2.1, 0)
def putNums (l : List Int) : Bytes := putBytes (l.flatMap be4)
theorem flat_len (l : List Int) : (l.flatMap be4).length = 4 * l.length := by
  induction l with
  | nil => rfl
  | cons x l ih => simp [List.flatMap_cons, ih, be4]; omega
theorem chunks_flat {l : List Int} (h : ∀ x ∈ l, 0 ≤ x ∧ x < 4294967296) : chunks (l.flatMap be4) = l := by
  induction l with
  | nil => rfl
  | cons x l ih =>
    have hx := h x (by simp)
    simp only [List.flatMap_cons, be4, List.cons_append, List.nil_append, chunks, ih fun y hy => h y (by simp [hy]), List.cons.injEq, and_true]
    simp only [num, List.foldl_cons, List.foldl_nil, byte_toNat]
    omega
theorem flat_chunks : ∀ {b : Bytes}, b.length % 4 = 0 → (chunks b).flatMap be4 = b
  | [], _ => rfl
  | [_], h => by simp at h
  | [_, _], h => by simp at h
  | [_, _, _], h => by simp at h
  | w :: x :: y :: z :: l, h => by
    have h' : l.length % 4 = 0 := by simp at h; omega
    have l1 : w.toNat < 256 := w.toNat_lt
    have l2 : x.toNat < 256 := x.toNat_lt
    have l3 : y.toNat < 256 := y.toNat_lt
    have l4 : z.toNat < 256 := z.toNat_lt
    have hy : ∀ (m : Nat) (y : UInt8), m % 256 = y.toNat → byte m = y := fun m y hm => UInt8.toNat_inj.1 (by rw [byte_toNat, hm])
    simp only [chunks, List.flatMap_cons, flat_chunks h', be4, List.cons_append, List.nil_append, num, List.foldl_cons, List.foldl_nil]
    rw [hy _ w (by omega), hy _ x (by omega), hy _ y (by omega), hy _ z (by omega)]
theorem chunks_nonneg : ∀ {b : Bytes} {x : Int}, x ∈ chunks b → 0 ≤ x
  | [], x, h => by simp [chunks] at h
  | [_], x, h => by simp [chunks] at h
  | [_, _], x, h => by simp [chunks] at h
  | [_, _, _], x, h => by simp [chunks] at h
  | _ :: _ :: _ :: _ :: l, x, h => by
    simp only [chunks, List.mem_cons] at h
    rcases h with rfl | h
    · omega
    · exact chunks_nonneg h
theorem getNums_put {l : List Int} (hl : l.length ≤ 64) (h : ∀ x ∈ l, 0 ≤ x ∧ x < 4294967296) (t : Bytes) : getNums (putNums l ++ t) = (l, t, 0) := by
  have := flat_len l
  unfold getNums putNums
  rw [getBytes_put (by omega)]
  simp [chunks_flat h, this]
theorem getNums_short {l : List Int} (hl : l.length ≤ 64) {p : Bytes} (hp : p <+: putNums l) (hlt : p.length < (putNums l).length) : getNums p = ([], [], 1) := by
  have := flat_len l
  unfold getNums
  rw [getBytes_short (by omega) hp hlt]
  simp
theorem getNums_only {b r : Bytes} {l : List Int} (h : getNums b = (l, r, 0)) : b = putNums l ++ r := by
  unfold getNums at h
  split at h
  · rename_i he
    simp only [Prod.mk.injEq] at h
    exact absurd h.2.2 he
  · rename_i he
    split at h
    · simp at h
    · rename_i h1
      rcases hv : getBytes b with ⟨v, r', e⟩
      rw [hv] at h h1 he
      simp only [Prod.mk.injEq, and_true, ne_eq, Decidable.not_not] at h h1 he
      subst he
      obtain ⟨rfl, rfl⟩ := h
      obtain ⟨k1, k2⟩ := getBytes_only hv
      unfold putNums
      rw [flat_chunks h1]
      exact k2
theorem getNums_err {b : Bytes} (h : (getNums b).2.2 ≠ 0) : getNums b = ([], [], (getNums b).2.2) := by
  unfold getNums at h ⊢
  repeat' split
  all_goals first | rfl | skip
  all_goals simp_all
theorem putBytes_pos {v : Bytes} (h : v.length ≤ 1048576) : 0 < (putBytes v).length := by
  unfold putBytes
  rw [if_neg (by omega), List.length_append, vput_len (by omega)]
  repeat' split
  all_goals omega
end Go.Proofs.Ytcnedmkfcbcjkaa.Pl
