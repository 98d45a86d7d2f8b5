/- Whatever a link is asked, each answer and all that it tells is the document's. -/
import Derived.Test.YtjileigclbohdaaT1d
import Derived.Test.YtjileigclbohdaaPl3
namespace Go.Proofs.Ytjileigclbohdaa
open Go Go.Hp
set_option linter.unusedVariables false
set_option linter.unusedSimpArgs false
theorem law16_up5 : law16_awake 5000 = some true := by decide +kernel
def conv (now : Int) (b : S_link_body) : S_ref16_Body := ⟨b.seq, if b.at_ < 0 then -1 else now - b.at_, b.b⟩
def toE (p : Int × List Int) : S_ref16_Early := ⟨p.1, p.2⟩
/-- The document's link. -/
def toR (l : S_link_Link) : S_ref16_Link := ⟨l.window, l.span, l.room, l.epoch, l.next, l.acked, l.sent, l.got, l.out.map (conv l.now), l.early.map toE, l.owes⟩
structure Inv (rm : Int) (k : Nat) (l : S_link_Link) : Prop where
  w : 0 < l.window ∧ l.window < 65
  s : 0 < l.span ∧ l.span < 1001
  r : l.room = rm ∧ 0 < rm ∧ rm < 4097
  now : 0 ≤ l.now ∧ l.now ≤ k
  next : 0 ≤ l.next ∧ l.next ≤ 20 * k
  acked : 0 ≤ l.acked ∧ l.acked ≤ l.sent
  sent : l.sent ≤ l.next
  got : 0 ≤ l.got ∧ l.got + l.early.length ≤ k
  olen : (l.out.length : Int) ≤ rm
  olen2 : l.out.length ≤ 20 * k
  sorted : l.out.Pairwise (fun a b => a.seq < b.seq)
  el : ∀ b ∈ l.out, b.seq ≤ l.next ∧ b.at_ ≤ l.now ∧ b.b.length ≤ 500
  nod : (l.early.map Prod.fst).Nodup
theorem Inv.up {rm : Int} {k : Nat} {l : S_link_Link} (h : Inv rm k l) : Inv rm (k + 1) l :=
  ⟨h.w, h.s, h.r, ⟨h.now.1, by have := h.now.2; omega⟩, ⟨h.next.1, by have := h.next.2; omega⟩, h.acked, h.sent, ⟨h.got.1, by have := h.got.2; omega⟩, h.olen, by have := h.olen2; omega, h.sorted, h.el, h.nod⟩
-- sending
theorem cont_is (xs : List (List Int)) (h : xs.length ≤ 20) (h2 : ∀ x ∈ xs, x.length ≤ 500) : slices_ContainsFunc_s_s_byte_s_byte 5000 xs (fun y2_ => some (decide (((y2_.length : Nat) : Int) > 65536))) = some false := by
  have key : slices_IndexFunc_s_s_byte_s_byte.L1 xs (fun y2_ => some (decide (((y2_.length : Nat) : Int) > 65536))) 5000 0 = some (-1) := by
    refine loop_c (fun m (_ : Unit) i => slices_IndexFunc_s_s_byte_s_byte.L1 xs (fun y2_ => some (decide (((y2_.length : Nat) : Int) > 65536))) m i) (fun _ => ()) xs.length _ (fun m i hi => ?_) (fun m => ?_) 5000 (by omega)
    · have := h2 xs[i] (List.getElem_mem hi)
      show slices_IndexFunc_s_s_byte_s_byte.L1 xs _ (m + 1) (i : Int) = _
      rw [slices_IndexFunc_s_s_byte_s_byte.L1, if_pos (by omega), idx_get _ _ hi, Option.bind_some, Option.bind_some, if_neg (fun h => by have := of_decide_eq_true h; omega), W_succ i (by omega)]
    · show slices_IndexFunc_s_s_byte_s_byte.L1 xs _ (m + 1) (xs.length : Int) = _
      rw [slices_IndexFunc_s_s_byte_s_byte.L1, if_neg (by omega)]
  unfold slices_ContainsFunc_s_s_byte_s_byte slices_IndexFunc_s_s_byte_s_byte
  rw [key, Option.bind_some]; rfl
theorem clone_is (x : List Int) (h : x.length ≤ 500) : bytes_Clone x = some x := by
  unfold bytes_Clone
  rw [app_ok _ _ (by simp only [List.length_nil]; omega), List.nil_append, Option.bind_some]
def mkS : Int → List (List Int) → List S_link_body
  | _, [] => []
  | n, x :: xs => ⟨n + 1, -1, x⟩ :: mkS (n + 1) xs
def mkR : Int → List (List Int) → List S_ref16_Body
  | _, [] => []
  | n, x :: xs => ⟨n + 1, -1, x⟩ :: mkR (n + 1) xs
theorem mk_conv (now : Int) : ∀ (xs : List (List Int)) (n : Int), (mkS n xs).map (conv now) = mkR n xs
  | [], _ => rfl
  | x :: xs, n => by rw [mkS, mkR, List.map_cons, mk_conv now xs]; rfl
theorem mk_len : ∀ (xs : List (List Int)) (n : Int), (mkS n xs).length = xs.length
  | [], _ => rfl
  | x :: xs, n => by rw [mkS, List.length_cons, List.length_cons, mk_len xs]
theorem mk_el : ∀ (xs : List (List Int)) (n : Int), (∀ x ∈ xs, x.length ≤ 500) → ∀ b ∈ mkS n xs, n < b.seq ∧ b.seq ≤ n + xs.length ∧ b.at_ = -1 ∧ b.b.length ≤ 500
  | [], _, _, b, hb => by simp [mkS] at hb
  | x :: xs, n, h, b, hb => by
    rw [mkS, List.mem_cons] at hb
    rcases hb with rfl | hb
    · have := h x (by simp)
      refine ⟨by show n < n + 1; omega, by show n + 1 ≤ n + _; simp; omega, rfl, this⟩
    · have := mk_el xs (n + 1) (fun x hx => h x (by simp [hx])) b hb
      simp only [List.length_cons]
      omega
theorem mk_sorted : ∀ (xs : List (List Int)) (n : Int), (mkS n xs).Pairwise (fun a b => a.seq < b.seq)
  | [], _ => by simp [mkS]
  | x :: xs, n => by
    rw [mkS, List.pairwise_cons]
    refine ⟨fun b hb => ?_, mk_sorted xs _⟩
    have : ∀ (xs : List (List Int)) (n : Int), ∀ b ∈ mkS n xs, n < b.seq := by
      intro xs
      induction xs with
      | nil => intro n b hb; simp [mkS] at hb
      | cons y ys ih =>
        intro n b hb
        rw [mkS, List.mem_cons] at hb
        rcases hb with rfl | hb
        · show n < n + 1; omega
        · have := ih _ b hb; omega
    exact this xs _ b hb
def sendS (l : S_link_Link) (xs : List (List Int)) : S_link_Link := { l with next := l.next + xs.length, out := l.out ++ mkS l.next xs }
def sendR (r : S_ref16_Link) (xs : List (List Int)) : S_ref16_Link := { r with Next := r.Next + xs.length, Out := r.Out ++ mkR r.Next xs }
theorem sendS_cons (l : S_link_Link) (x : List Int) (xs : List (List Int)) : sendS { l with next := l.next + 1, out := l.out ++ [⟨l.next + 1, -1, x⟩] } xs = sendS l (x :: xs) := by
  simp only [sendS, mkS, List.length_cons, List.append_assoc, List.cons_append, List.nil_append]
  rw [show l.next + 1 + (xs.length : Int) = l.next + ((xs.length + 1 : Nat) : Int) by omega]
theorem sendR_cons (l : S_ref16_Link) (x : List Int) (xs : List (List Int)) : sendR { l with Next := l.Next + 1, Out := l.Out ++ [⟨l.Next + 1, -1, x⟩] } xs = sendR l (x :: xs) := by
  simp only [sendR, mkR, List.length_cons, List.append_assoc, List.cons_append, List.nil_append]
  rw [show l.Next + 1 + (xs.length : Int) = l.Next + ((xs.length + 1 : Nat) : Int) by omega]
theorem sendS_nil (l : S_link_Link) : sendS l [] = l := by simp [sendS, mkS]
theorem sendR_nil (l : S_ref16_Link) : sendR l [] = l := by simp [sendR, mkR]
theorem toR_send (l : S_link_Link) (xs : List (List Int)) : toR (sendS l xs) = sendR (toR l) xs := by
  simp only [toR, sendS, sendR, List.map_append, mk_conv]
theorem send_loop (all : List (List Int)) (ha : all.length ≤ 20) : ∀ (post pre : List (List Int)) (m : Nat) (l : S_link_Link), all = pre ++ post → post.length < m → (∀ x ∈ post, x.length ≤ 500) → 0 ≤ l.next ∧ l.next ≤ 4000 + (pre.length : Int) → l.out.length ≤ 5000 + pre.length →
    link_Link_Send.L1 all m l (pre.length : Int) = some (0, sendS l post)
  | [], pre, m, l, e, hm, hx, hn, ho => by
    obtain ⟨m, rfl⟩ : ∃ q, m = q + 1 := ⟨m - 1, by omega⟩
    rw [link_Link_Send.L1, if_neg (by rw [e]; simp), sendS_nil]
  | x :: post, pre, m, l, e, hm, hx, hn, ho => by
    obtain ⟨m, rfl⟩ : ∃ q, m = q + 1 := ⟨m - 1, by omega⟩
    have hl : pre.length + post.length + 1 ≤ 20 := by rw [e] at ha; simp at ha; omega
    have hi : idx all (pre.length : Int) = some x := by rw [e]; exact idx_mid _ _ _
    rw [link_Link_Send.L1, if_pos (by rw [e]; simp; omega), hi, Option.bind_some, clone_is x (hx x (by simp)), Option.bind_some, W_in (x := l.next + 1) (by omega), app_ok _ _ (by simp only [List.length_cons, List.length_nil]; omega), Option.bind_some, W_succ _ (by omega), ← len_snoc pre x]
    exact (send_loop all ha post (pre ++ [x]) m _ (by rw [e]; simp) (by simp at hm; omega) (fun y hy => hx y (by simp [hy])) ⟨by show 0 ≤ l.next + 1; omega, by show l.next + 1 ≤ 4000 + ((pre ++ [x]).length : Int); simp; omega⟩ (by show (l.out ++ _).length ≤ _; simp; omega)).trans (by rw [sendS_cons])
theorem sendR_loop (all : List (List Int)) (ha : all.length ≤ 20) : ∀ (post pre : List (List Int)) (m : Nat) (l : S_ref16_Link), all = pre ++ post → post.length < m → (∀ x ∈ post, x.length ≤ 500) → 0 ≤ l.Next ∧ l.Next ≤ 4000 + (pre.length : Int) → l.Out.length ≤ 5000 + pre.length →
    ref16_Link_Send.L2 all m l (pre.length : Int) = some (0, sendR l post)
  | [], pre, m, l, e, hm, hx, hn, ho => by
    obtain ⟨m, rfl⟩ : ∃ q, m = q + 1 := ⟨m - 1, by omega⟩
    rw [ref16_Link_Send.L2, if_neg (by rw [e]; simp), sendR_nil]
  | x :: post, pre, m, l, e, hm, hx, hn, ho => by
    obtain ⟨m, rfl⟩ : ∃ q, m = q + 1 := ⟨m - 1, by omega⟩
    have hl : pre.length + post.length + 1 ≤ 20 := by rw [e] at ha; simp at ha; omega
    have hi : idx all (pre.length : Int) = some x := by rw [e]; exact idx_mid _ _ _
    have hz := hx x (by simp)
    rw [ref16_Link_Send.L2, if_pos (by rw [e]; simp; omega), hi, Option.bind_some, app_ok _ _ (by simp only [List.length_nil]; omega), List.nil_append, Option.bind_some, W_in (x := l.Next + 1) (by omega), app_ok _ _ (by simp only [List.length_cons, List.length_nil]; omega), Option.bind_some, W_succ _ (by omega), ← len_snoc pre x]
    exact (sendR_loop all ha post (pre ++ [x]) m _ (by rw [e]; simp) (by simp at hm; omega) (fun y hy => hx y (by simp [hy])) ⟨by show 0 ≤ l.Next + 1; omega, by show l.Next + 1 ≤ 4000 + ((pre ++ [x]).length : Int); simp; omega⟩ (by show (l.Out ++ _).length ≤ _; simp; omega)).trans (by rw [sendR_cons])
def small (xs : List (List Int)) : Prop := xs.length ≤ 20 ∧ ∀ x ∈ xs, x.length ≤ 500
theorem send_is {rm : Int} {k : Nat} {l : S_link_Link} (h : Inv rm k l) (hk : k ≤ 100) {xs : List (List Int)} (hx : small xs) :
    link_Link_Send 5000 l xs = some (if (l.out.length : Int) + xs.length > l.room then (80, l) else (0, sendS l xs)) := by
  have h1 := h.olen; have h2 := h.olen2; have h3 := h.r; have h4 := h.next; have h5 := hx.1
  unfold link_Link_Send
  rw [cont_is xs hx.1 hx.2, Option.bind_some, if_neg (by decide), W_in (by omega)]
  by_cases c : (l.out.length : Int) + xs.length > l.room
  · rw [if_pos (by omega), if_pos c]
  · rw [if_neg (by omega), if_neg c]
    exact send_loop xs hx.1 xs [] 5000 l rfl (by omega) hx.2 ⟨h4.1, by simp; omega⟩ (by simp; omega)
theorem sendR_is {rm : Int} {k : Nat} {l : S_link_Link} (h : Inv rm k l) (hk : k ≤ 100) {xs : List (List Int)} (hx : small xs) :
    ref16_Link_Send 5000 (toR l) xs = some (if (l.out.length : Int) + xs.length > l.room then (80, toR l) else (0, toR (sendS l xs))) := by
  have h1 := h.olen; have h2 := h.olen2; have h3 := h.r; have h4 := h.next; have h5 := hx.1
  have hl : (toR l).Out.length = l.out.length := by simp [toR]
  have hr : (toR l).Room = l.room := rfl
  have hN : (toR l).Next = l.next := rfl
  unfold ref16_Link_Send
  refine loop_c (fun m (_ : Unit) i => ref16_Link_Send.L1 5000 (toR l) xs m i) (fun _ => ()) xs.length _ (fun m i hi => ?_) (fun m => ?_) 5000 (by omega)
  · have := hx.2 xs[i] (List.getElem_mem hi)
    show ref16_Link_Send.L1 5000 _ xs (m + 1) (i : Int) = _
    rw [ref16_Link_Send.L1, if_pos (by omega), idx_get _ _ hi, Option.bind_some, if_neg (by omega), W_succ i (by omega)]
  · show ref16_Link_Send.L1 5000 _ xs (m + 1) (xs.length : Int) = _
    rw [ref16_Link_Send.L1, if_neg (by omega), hl, hr, W_in (by omega)]
    by_cases c : (l.out.length : Int) + xs.length > l.room
    · rw [if_pos c, if_pos c]
    · rw [if_neg c, if_neg c, toR_send]
      exact sendR_loop xs hx.1 xs [] 5000 (toR l) rfl (by omega) hx.2 ⟨by rw [hN]; exact h4.1, by rw [hN]; simp; omega⟩ (by rw [hl]; simp; omega)
theorem Inv.send {rm : Int} {k : Nat} {l : S_link_Link} (h : Inv rm k l) {xs : List (List Int)} (hx : small xs) (c : ¬ (l.out.length : Int) + xs.length > l.room) : Inv rm (k + 1) (sendS l xs) := by
  have h1 := h.olen; have h2 := h.olen2; have h3 := h.r; have h4 := h.next; have h5 := hx.1; have h6 := h.got; have h7 := h.now; have h8 := h.sent
  refine ⟨h.w, h.s, h.r, ⟨h7.1, by show l.now ≤ _; omega⟩, ⟨by show 0 ≤ l.next + _; omega, by show l.next + (xs.length : Int) ≤ _; omega⟩, h.acked, by show l.sent ≤ l.next + (xs.length : Int); omega, ⟨h6.1, by show l.got + (l.early.length : Int) ≤ _; omega⟩, ?_, ?_, ?_, ?_, h.nod⟩
  · show ((l.out ++ mkS l.next xs).length : Int) ≤ rm
    rw [List.length_append, mk_len]; omega
  · show (l.out ++ mkS l.next xs).length ≤ _
    rw [List.length_append, mk_len]; omega
  · show (l.out ++ mkS l.next xs).Pairwise _
    rw [List.pairwise_append]
    exact ⟨h.sorted, mk_sorted _ _, fun a ha b hb => by have := (h.el a ha).1; have := (mk_el xs _ hx.2 b hb).1; omega⟩
  · intro b hb
    show b.seq ≤ l.next + (xs.length : Int) ∧ b.at_ ≤ l.now ∧ _
    rcases List.mem_append.1 hb with hb | hb
    · have := h.el b hb; exact ⟨by omega, this.2⟩
    · have := mk_el xs _ hx.2 b hb; exact ⟨this.2.1, by omega, this.2.2.2⟩
-- ticks
def due (l : S_link_Link) (b : S_link_body) : Bool := decide (b.seq ≤ l.acked + l.window) && (decide (b.at_ < 0) || decide (l.now + 1 - b.at_ ≥ l.span))
def upd (l : S_link_Link) (b : S_link_body) : S_link_body := if due l b then { b with at_ := l.now + 1 } else b
def seg (l : S_link_Link) (b : S_link_body) : S_api_Seg := ⟨l.epoch, b.seq, l.got, b.b⟩
def smax (l : S_link_Link) : Int → List S_link_body → Int
  | S, [] => S
  | S, b :: post => smax l (if due l b then max S b.seq else S) post
def segsOf (l : S_link_Link) (post : List S_link_body) : List S_api_Seg := (post.filter (due l)).map (seg l)
def tl (l : S_link_Link) (S : Int) (out : List S_link_body) : S_link_Link := { l with now := l.now + 1, sent := S, out := out }
def tr (l : S_link_Link) (S : Int) (out : List S_ref16_Body) : S_ref16_Link := { toR l with Sent := S, Out := out }
theorem due_none (l : S_link_Link) : ∀ (post : List S_link_body), (∀ b ∈ post, due l b = false) → ∀ S, smax l S post = S ∧ post.map (upd l) = post ∧ segsOf l post = []
  | [], _, S => ⟨rfl, rfl, rfl⟩
  | b :: post, h, S => by
    have hb := h b (by simp)
    obtain ⟨e1, e2, e3⟩ := due_none l post (fun c hc => h c (by simp [hc])) S
    refine ⟨by rw [smax, hb]; exact e1, by rw [List.map_cons, e2, upd, hb]; rfl, ?_⟩
    unfold segsOf at *
    rw [List.filter_cons, hb]
    exact e3
theorem segs_yes {l : S_link_Link} {b : S_link_body} (post : List S_link_body) (h : due l b = true) : segsOf l (b :: post) = seg l b :: segsOf l post := by
  unfold segsOf; rw [List.filter_cons, h]; rfl
theorem segs_no {l : S_link_Link} {b : S_link_body} (post : List S_link_body) (h : due l b = false) : segsOf l (b :: post) = segsOf l post := by
  unfold segsOf; rw [List.filter_cons, h]; rfl
theorem tick_loop (l x0 : S_link_Link) (hb : 0 ≤ l.acked ∧ l.acked ≤ 5000 ∧ 0 < l.window ∧ l.window < 65 ∧ 0 ≤ l.now ∧ l.now ≤ 5000) (hx : x0.out.length ≤ 5000) : ∀ (post pre : List S_link_body) (m : Nat) (S : Int) (segs : List S_api_Seg), post.length < m → x0.out.length = pre.length + post.length →
    post.Pairwise (fun a b => a.seq < b.seq) → segs.length ≤ pre.length → (∀ b ∈ post, b.at_ ≤ l.now ∧ b.b.length ≤ 500) →
    link_Link_Tick.L2 x0 m (tl l S (pre ++ post)) segs (pre.length : Int) = link_Link_Tick.J1 (tl l (smax l S post) (pre ++ post.map (upd l))) (segs ++ segsOf l post)
  | [], pre, m, S, segs, hm, hl, hp, hs, he => by
    obtain ⟨m, rfl⟩ : ∃ q, m = q + 1 := ⟨m - 1, by omega⟩
    rw [link_Link_Tick.L2, if_neg (by rw [hl]; simp)]
    simp [smax, segsOf]
  | b :: post, pre, m, S, segs, hm, hl, hp, hs, he => by
    obtain ⟨m, rfl⟩ : ∃ q, m = q + 1 := ⟨m - 1, by omega⟩
    have hbb := he b (by simp)
    have ho : (tl l S (pre ++ b :: post)).out = pre ++ b :: post := rfl
    rw [link_Link_Tick.L2, if_pos (by rw [hl]; simp; omega), ho, idx_mid, Option.bind_some]
    rw [show (tl l S (pre ++ b :: post)).acked = l.acked from rfl, show (tl l S (pre ++ b :: post)).window = l.window from rfl, show (tl l S (pre ++ b :: post)).now = l.now + 1 from rfl, show (tl l S (pre ++ b :: post)).span = l.span from rfl, W_in (x := l.acked + l.window) (by omega)]
    rw [List.pairwise_cons] at hp
    have go : ∀ (b' : S_link_body) (S' : Int) (segs' : List S_api_Seg), S' = (if due l b then max S b.seq else S) → b' = upd l b → segs' = segs ++ (if due l b then [seg l b] else []) →
        link_Link_Tick.L2 x0 m (tl l S' (pre ++ b' :: post)) segs' ((pre.length + 1 : Nat) : Int) = link_Link_Tick.J1 (tl l (smax l S (b :: post)) (pre ++ (b :: post).map (upd l))) (segs ++ segsOf l (b :: post)) := by
      intro b' S' segs' e1 e2 e3
      rw [snoc_cons, ← len_snoc pre b', tick_loop l x0 hb hx post (pre ++ [b']) m S' segs' (by simp at hm; omega) (by simp at hl ⊢; omega) hp.2 (by rw [e3]; split <;> simp <;> omega) (fun c hc => he c (by simp [hc]))]
      rw [smax, ← e1, List.map_cons, ← e2, ← snoc_cons, e3]
      cases hd : due l b
      · rw [segs_no _ hd]; simp
      · rw [segs_yes _ hd]; simp
    by_cases h1 : b.seq > l.acked + l.window
    · rw [if_pos h1]
      have hn : ∀ c ∈ b :: post, due l c = false := by
        intro c hc
        have : c.seq > l.acked + l.window := by
          rcases List.mem_cons.1 hc with rfl | hc
          · exact h1
          · have := hp.1 c hc; omega
        unfold due
        rw [decide_eq_false (by omega)]; rfl
      obtain ⟨e1, e2, e3⟩ := due_none l (b :: post) hn S
      rw [e1, e2, e3, List.append_nil]
    · rw [if_neg h1]
      have hJ : ∀ q : Bool, due l b = q → link_Link_Tick.J4 (tl l S (pre ++ b :: post)) segs (pre.length : Int) b (link_Link_Tick.L2 x0 m) q = link_Link_Tick.J1 (tl l (smax l S (b :: post)) (pre ++ (b :: post).map (upd l))) (segs ++ segsOf l (b :: post)) := by
        intro q hq
        unfold link_Link_Tick.J4 link_Link_Tick.J3
        rw [W_succ _ (by omega)]
        cases q
        · rw [if_neg (by decide)]
          exact go b S segs (by rw [hq]; rfl) (by rw [upd, hq]; rfl) (by rw [hq]; simp)
        · rw [if_pos rfl]
          rw [clone_is _ hbb.2, Option.bind_some, app_ok _ _ (by simp only [List.length_cons, List.length_nil]; omega), Option.bind_some, ho, set_mid]
          exact go { b with at_ := l.now + 1 } (max S b.seq) _ (by rw [hq]; rfl) (by rw [upd, hq]; rfl) (by rw [hq]; rfl)
      by_cases h2 : b.at_ < 0
      · rw [if_pos h2]
        exact hJ true (by unfold due; rw [decide_eq_true (by omega), decide_eq_true h2]; rfl)
      · rw [if_neg h2, W_in (by omega)]
        exact hJ _ (by unfold due; rw [decide_eq_true (show b.seq ≤ l.acked + l.window by omega), decide_eq_false h2]; rfl)
theorem conv_up (l : S_link_Link) (b : S_link_body) (h : b.at_ < 0) : conv l.now b = conv (l.now + 1) b := by
  unfold conv; rw [if_pos h, if_pos h]
theorem tickR_loop (l : S_link_Link) (hb : 0 ≤ l.acked ∧ l.acked ≤ 5000 ∧ 0 < l.window ∧ l.window < 65 ∧ 0 ≤ l.now ∧ l.now ≤ 5000) : ∀ (post : List S_link_body) (pre : List S_ref16_Body) (m : Nat) (S : Int) (segs : List S_api_Seg), post.length < m → pre.length + post.length ≤ 5000 →
    segs.length ≤ pre.length → (∀ b ∈ post, b.at_ ≤ l.now) → ∀ r, (∀ m, ref16_Link_Tick.L1 (m + 1) (tr l (smax l S post) (pre ++ post.map fun b => conv (l.now + 1) (upd l b))) (segs ++ segsOf l post) ((pre.length + post.length : Nat) : Int) = r) →
    ref16_Link_Tick.L1 m (tr l S (pre ++ post.map (conv l.now))) segs (pre.length : Int) = r
  | [], pre, m, S, segs, hm, hl, hs, he, r, hr => by
    obtain ⟨m, rfl⟩ : ∃ q, m = q + 1 := ⟨m - 1, by omega⟩
    have := hr m
    simpa [smax, segsOf] using this
  | b :: post, pre, m, S, segs, hm, hl, hs, he, r, hr => by
    obtain ⟨m, rfl⟩ : ∃ q, m = q + 1 := ⟨m - 1, by omega⟩
    have hbb := he b (by simp)
    have hlen : pre.length + post.length + 1 ≤ 5000 := by simp at hl; omega
    have ho : (tr l S (pre ++ (b :: post).map (conv l.now))).Out = pre ++ conv l.now b :: post.map (conv l.now) := rfl
    rw [ref16_Link_Tick.L1, ho, if_pos (by simp; omega), idx_mid, Option.bind_some]
    -- on, with what stands at the place now
    have go : ∀ (S' : Int) (segs' : List S_api_Seg), S' = (if due l b then max S b.seq else S) → segs' = segs ++ (if due l b then [seg l b] else []) →
        ref16_Link_Tick.L1 m (tr l S' (pre ++ conv (l.now + 1) (upd l b) :: post.map (conv l.now))) segs' ((pre.length + 1 : Nat) : Int) = r := by
      intro S' segs' e1 e3
      rw [snoc_cons, ← len_snoc pre (conv (l.now + 1) (upd l b))]
      refine tickR_loop l hb post (pre ++ [conv (l.now + 1) (upd l b)]) m S' segs' (by simp at hm; omega) (by simp at hl ⊢; omega) (by rw [e3]; split <;> simp <;> omega) (fun c hc => he c (by simp [hc])) r fun m' => ?_
      have := hr m'
      rw [smax, ← e1] at this
      rw [← this, e3]
      cases hd : due l b
      · rw [segs_no _ hd]; simp; rw [show (pre.length : Int) + 1 + (post.length : Int) = (pre.length : Int) + ((post.length : Int) + 1) by omega]
      · rw [segs_yes _ hd]; simp; rw [show (pre.length : Int) + 1 + (post.length : Int) = (pre.length : Int) + ((post.length : Int) + 1) by omega]
    have h4 : ref16_Link_Tick.J4 segs (pre.length : Int) (ref16_Link_Tick.L1 m) (tr l S (pre ++ conv (l.now + 1) b :: post.map (conv l.now))) = r := by
      unfold ref16_Link_Tick.J4
      rw [show (tr l S (pre ++ conv (l.now + 1) b :: post.map (conv l.now))).Out = pre ++ conv (l.now + 1) b :: post.map (conv l.now) from rfl, idx_mid, Option.bind_some,
        show (tr l S (pre ++ conv (l.now + 1) b :: post.map (conv l.now))).Acked = l.acked from rfl, show (tr l S (pre ++ conv (l.now + 1) b :: post.map (conv l.now))).Window = l.window from rfl,
        show (tr l S (pre ++ conv (l.now + 1) b :: post.map (conv l.now))).Span = l.span from rfl, W_in (x := l.acked + l.window) (by omega), show (conv (l.now + 1) b).Seq = b.seq from rfl]
      have hJ : ∀ q : Bool, due l b = !q → ref16_Link_Tick.J5 segs (pre.length : Int) (tr l S (pre ++ conv (l.now + 1) b :: post.map (conv l.now))) (ref16_Link_Tick.L1 m) q = r := by
        intro q hq
        unfold ref16_Link_Tick.J5
        cases q
        · have hd : due l b = true := hq
          rw [if_neg (by decide), show (tr l S (pre ++ conv (l.now + 1) b :: post.map (conv l.now))).Out = pre ++ conv (l.now + 1) b :: post.map (conv l.now) from rfl, idx_mid, Option.bind_some, set_mid, idx_mid, Option.bind_some, Option.bind_some]
          have eu : ({ conv (l.now + 1) b with Since := 0 } : S_ref16_Body) = conv (l.now + 1) (upd l b) := by
            rw [upd, hd, if_pos rfl]
            unfold conv
            rw [if_neg (show ¬ l.now + 1 < 0 by omega)]
            simp
          rw [eu]
          have hq2 : (conv (l.now + 1) (upd l b)).Seq = b.seq := by rw [← eu]; rfl
          have hq3 : (conv (l.now + 1) (upd l b)).B = b.b := by rw [← eu]; rfl
          have h6 : ∀ S', S' = max S b.seq → ref16_Link_Tick.J6 segs (pre.length : Int) (ref16_Link_Tick.L1 m) (tr l S' (pre ++ conv (l.now + 1) (upd l b) :: post.map (conv l.now))) = r := by
            intro S' hS
            unfold ref16_Link_Tick.J6 ref16_Link_Tick.J3
            rw [show (tr l S' (pre ++ conv (l.now + 1) (upd l b) :: post.map (conv l.now))).Out = pre ++ conv (l.now + 1) (upd l b) :: post.map (conv l.now) from rfl, idx_mid, Option.bind_some, Option.bind_some, app_ok _ _ (by simp only [List.length_cons, List.length_nil]; omega), Option.bind_some, W_succ _ (by omega), hq2, hq3]
            exact go S' _ (by rw [hS, hd]; rfl) (by rw [hd]; rfl)
          rw [hq2, show (tr l S (pre ++ conv (l.now + 1) b :: post.map (conv l.now))).Sent = S from rfl]
          by_cases h : b.seq > S
          · rw [if_pos h]
            exact h6 b.seq (by omega)
          · rw [if_neg h]
            exact h6 S (by omega)
        · have hd : due l b = false := hq
          rw [if_pos rfl]
          unfold ref16_Link_Tick.J3
          rw [W_succ _ (by omega)]
          have := go S segs (by rw [hd]; rfl) (by rw [hd]; simp)
          rw [upd, hd] at this
          exact this
      by_cases h1 : b.seq > l.acked + l.window
      · rw [if_pos h1]
        exact hJ true (by unfold due; rw [decide_eq_false (by omega)]; rfl)
      · rw [if_neg h1, Option.bind_some]
        by_cases h2 : b.at_ < 0
        · have : (conv (l.now + 1) b).Since = -1 := if_pos h2
          rw [this, if_neg (by decide)]
          exact hJ false (by unfold due; rw [decide_eq_true (show b.seq ≤ l.acked + l.window by omega), decide_eq_true h2]; rfl)
        · have e : (conv (l.now + 1) b).Since = l.now + 1 - b.at_ := if_neg h2
          rw [e, if_pos (by omega), Option.bind_some, e]
          exact hJ _ (by
            unfold due
            rw [decide_eq_true (show b.seq ≤ l.acked + l.window by omega), decide_eq_false h2]
            by_cases h3 : l.now + 1 - b.at_ ≥ l.span
            · rw [decide_eq_true h3, decide_eq_false (by omega)]; rfl
            · rw [decide_eq_false h3, decide_eq_true (by omega)]; rfl)
    by_cases h2 : b.at_ < 0
    · have : (conv l.now b).Since = -1 := if_pos h2
      rw [this, if_neg (by decide)]
      have e : (tr l S (pre ++ (b :: post).map (conv l.now))) = tr l S (pre ++ conv (l.now + 1) b :: post.map (conv l.now)) := by rw [List.map_cons, conv_up l b h2]
      rw [e]
      exact h4
    · have e : (conv l.now b).Since = l.now - b.at_ := if_neg h2
      rw [e, if_pos (by omega), Option.bind_some, Option.bind_some, e, set_mid, W_in (by omega)]
      have e2 : ({ conv l.now b with Since := l.now - b.at_ + 1 } : S_ref16_Body) = conv (l.now + 1) b := by
        unfold conv
        rw [if_neg h2]
        simp only [S_ref16_Body.mk.injEq, true_and, and_true]
        omega
      rw [e2]
      exact h4
def tickS (l : S_link_Link) : List S_api_Seg × S_link_Link :=
  (if segsOf l l.out = [] ∧ l.owes = true then [⟨l.epoch, 0, l.got, []⟩] else segsOf l l.out, { tl l (smax l l.sent l.out) (l.out.map (upd l)) with owes := false })
theorem segs_len (l : S_link_Link) (post : List S_link_body) : (segsOf l post).length ≤ post.length := by
  unfold segsOf; rw [List.length_map]; exact List.length_filter_le _ _
theorem tick_is {rm : Int} {k : Nat} {l : S_link_Link} (h : Inv rm k l) (hk : k ≤ 100) : link_Link_Tick 5000 l = some (tickS l) := by
  have h1 := h.olen2; have h2 := h.w; have h3 := h.acked; have h4 := h.sent; have h5 := h.next; have h6 := h.now
  unfold link_Link_Tick
  rw [W_in (x := l.now + 1) (by omega)]
  refine (tick_loop l l (by omega) (by omega) l.out [] 5000 l.sent [] (by omega) (by simp) h.sorted (by simp) (fun b hb => (h.el b hb).2)).trans ?_
  rw [List.nil_append, List.nil_append]
  have hn : (segsOf l l.out).length = 0 ↔ segsOf l l.out = [] := List.length_eq_zero_iff
  unfold link_Link_Tick.J1 link_Link_Tick.J5 tickS
  rw [show (tl l (smax l l.sent l.out) (l.out.map (upd l))).owes = l.owes from rfl, show (tl l (smax l l.sent l.out) (l.out.map (upd l))).epoch = l.epoch from rfl, show (tl l (smax l l.sent l.out) (l.out.map (upd l))).got = l.got from rfl]
  by_cases c : segsOf l l.out = []
  · rw [if_pos (by rw [c]; rfl)]
    by_cases o : l.owes = true
    · rw [if_pos o, if_pos ⟨c, o⟩, c, app_ok _ _ (by simp), Option.bind_some]; rfl
    · rw [if_neg o, if_neg (fun q => o q.2)]; rfl
  · rw [if_neg (fun e => c (hn.1 (by omega))), if_neg (by decide), if_neg (fun q => c q.1)]; rfl
theorem tickR_is {rm : Int} {k : Nat} {l : S_link_Link} (h : Inv rm k l) (hk : k ≤ 100) : ref16_Link_Tick 5000 (toR l) = some ((tickS l).1, toR (tickS l).2) := by
  have h1 := h.olen2; have h2 := h.w; have h3 := h.acked; have h4 := h.sent; have h5 := h.next; have h6 := h.now
  unfold ref16_Link_Tick
  refine tickR_loop l (by omega) l.out [] 5000 l.sent [] (by omega) (by simp; omega) (by simp) (fun b hb => (h.el b hb).2.1) _ fun m => ?_
  rw [List.nil_append, List.nil_append]
  have hn : (segsOf l l.out).length = 0 ↔ segsOf l l.out = [] := List.length_eq_zero_iff
  rw [ref16_Link_Tick.L1, if_neg (by simp [tr])]
  unfold ref16_Link_Tick.J2 tickS
  have e : ({ tr l (smax l l.sent l.out) (l.out.map fun b => conv (l.now + 1) (upd l b)) with Owes := false } : S_ref16_Link) = toR { tl l (smax l l.sent l.out) (l.out.map (upd l)) with owes := false } := by
    simp only [tr, toR, tl, List.map_map]
    rfl
  rw [← e, show (tr l (smax l l.sent l.out) (l.out.map fun b => conv (l.now + 1) (upd l b))).Owes = l.owes from rfl, show (tr l (smax l l.sent l.out) (l.out.map fun b => conv (l.now + 1) (upd l b))).Epoch = l.epoch from rfl, show (tr l (smax l l.sent l.out) (l.out.map fun b => conv (l.now + 1) (upd l b))).Got = l.got from rfl]
  by_cases c : segsOf l l.out = []
  · rw [if_pos (by rw [c]; rfl)]
    by_cases o : l.owes = true
    · rw [if_pos o, if_pos ⟨c, o⟩, c, app_ok _ _ (by simp), Option.bind_some]; rfl
    · rw [if_neg o, if_neg (fun q => o q.2)]; rfl
  · rw [if_neg (fun e => c (hn.1 (by omega))), if_neg (by decide), if_neg (fun q => c q.1)]; rfl
theorem smax_le (l : S_link_Link) (M : Int) : ∀ (post : List S_link_body) (S : Int), S ≤ M → (∀ b ∈ post, b.seq ≤ M) → S ≤ smax l S post ∧ smax l S post ≤ M
  | [], S, h, _ => ⟨Int.le_refl _, h⟩
  | b :: post, S, h, hb => by
    have h1 := hb b (by simp)
    have := smax_le l M post (if due l b then max S b.seq else S) (by split <;> omega) (fun c hc => hb c (by simp [hc]))
    rw [smax]
    refine ⟨?_, this.2⟩
    have h2 := this.1
    split at h2 <;> split <;> first | omega | simp_all
theorem upd_seq (l : S_link_Link) (b : S_link_body) : (upd l b).seq = b.seq := by unfold upd; split <;> rfl
theorem Inv.tick {rm : Int} {k : Nat} {l : S_link_Link} (h : Inv rm k l) : Inv rm (k + 1) (tickS l).2 := by
  have h1 := h.olen; have h2 := h.olen2; have h4 := h.next; have h6 := h.got; have h7 := h.now; have h8 := h.sent; have h9 := h.acked
  obtain ⟨s1, s2⟩ := smax_le l l.next l.out l.sent h8 (fun b hb => (h.el b hb).1)
  refine ⟨h.w, h.s, h.r, ⟨by show 0 ≤ l.now + 1; omega, by show l.now + 1 ≤ _; omega⟩, ⟨h4.1, by show l.next ≤ _; omega⟩, ⟨h9.1, by show l.acked ≤ smax l l.sent l.out; omega⟩, s2, ⟨h6.1, by show l.got + (l.early.length : Int) ≤ _; omega⟩, ?_, ?_, ?_, ?_, h.nod⟩
  · show ((l.out.map (upd l)).length : Int) ≤ rm
    rw [List.length_map]; exact h1
  · show (l.out.map (upd l)).length ≤ _
    rw [List.length_map]; omega
  · show (l.out.map (upd l)).Pairwise _
    rw [List.pairwise_map]
    exact h.sorted.imp fun {a b} hab => by rw [upd_seq, upd_seq]; exact hab
  · intro b hb
    obtain ⟨c, hc, rfl⟩ := List.mem_map.1 hb
    have := h.el c hc
    rw [upd_seq]
    refine ⟨this.1, ?_, ?_⟩
    · show (upd l c).at_ ≤ l.now + 1
      unfold upd; split
      · show l.now + 1 ≤ l.now + 1; omega
      · omega
    · unfold upd; split <;> exact this.2.2
-- what is deleted
theorem split_first {α : Type} (q : α → Bool) : ∀ (xs : List α), (∀ x ∈ xs, q x = false) ∨ ∃ a y b, xs = a ++ y :: b ∧ (∀ x ∈ a, q x = false) ∧ q y = true
  | [] => .inl (by simp)
  | x :: xs => by
    cases h : q x
    · rcases split_first q xs with h2 | ⟨a, y, b, rfl, h2, h3⟩
      · exact .inl fun z hz => by rcases List.mem_cons.1 hz with rfl | hz; exact h; exact h2 z hz
      · exact .inr ⟨x :: a, y, b, rfl, fun z hz => by rcases List.mem_cons.1 hz with rfl | hz; exact h; exact h2 z hz, h3⟩
    · exact .inr ⟨[], x, xs, rfl, by simp, h⟩
section
variable (q : S_link_body → Bool) (p : S_link_body → Option Bool) (hp : ∀ y, p y = some (q y))
include hp
theorem ix_skip (all : List S_link_body) (ha : all.length ≤ 5000) : ∀ (a pre post : List S_link_body) (m : Nat), all = pre ++ (a ++ post) → (∀ x ∈ a, q x = false) → 
    slices_IndexFunc_s_link_body_link_body.L1 all p (m + a.length) (pre.length : Int) = slices_IndexFunc_s_link_body_link_body.L1 all p m ((pre.length + a.length : Nat) : Int)
  | [], pre, post, m, e, h => by simp
  | x :: a, pre, post, m, e, h => by
    have hl : pre.length + (a.length + 1) + post.length = all.length := by rw [e]; simp; omega
    rw [show m + (x :: a).length = (m + a.length) + 1 by simp; omega, slices_IndexFunc_s_link_body_link_body.L1, if_pos (by omega), show idx all (pre.length : Int) = some x by rw [e]; exact idx_mid _ _ _, Option.bind_some, hp, Option.bind_some, h x (by simp), if_neg (by decide), W_succ _ (by omega), ← len_snoc pre x,
      ix_skip all ha a (pre ++ [x]) post m (by rw [e]; simp) (fun y hy => h y (by simp [hy]))]
    rw [show (pre ++ [x]).length + a.length = pre.length + (x :: a).length by simp; omega]
theorem del_loop (x0 : List S_link_body) (ha : x0.length ≤ 5000) : ∀ (post kept garb : List S_link_body) (m : Nat), x0.length = kept.length + garb.length + post.length → garb ≠ [] → post.length < m →
    slices_DeleteFunc_s_link_body_link_body.L1 x0 p m (kept ++ garb ++ post) (kept.length : Int) ((kept.length + garb.length : Nat) : Int) = some (kept ++ post.filter fun y => !q y)
  | [], kept, garb, m, hl, hg, hm => by
    obtain ⟨m, rfl⟩ : ∃ q, m = q + 1 := ⟨m - 1, by omega⟩
    rw [slices_DeleteFunc_s_link_body_link_body.L1, if_neg (by simp at hl; omega), chk_ok _ (by omega), chk_ok _ (by omega)]
    simp
  | y :: post, kept, garb, m, hl, hg, hm => by
    obtain ⟨m, rfl⟩ : ∃ q, m = q + 1 := ⟨m - 1, by omega⟩
    have hl2 : x0.length = kept.length + garb.length + (post.length + 1) := by simpa using hl
    have hix : idx (kept ++ garb ++ y :: post) ((kept.length + garb.length : Nat) : Int) = some y := by
      have := idx_mid (kept ++ garb) y post
      rwa [List.length_append] at this
    rw [slices_DeleteFunc_s_link_body_link_body.L1, if_pos (by omega), hix, Option.bind_some]
    rw [hp, Option.bind_some]
    obtain ⟨g, gs, rfl⟩ : ∃ g gs, garb = g :: gs := by cases garb with | nil => exact absurd rfl hg | cons g gs => exact ⟨g, gs, rfl⟩
    cases hq : q y
    · rw [if_neg (by decide)]
      unfold slices_DeleteFunc_s_link_body_link_body.J3 slices_DeleteFunc_s_link_body_link_body.J2
      rw [if_pos rfl, show kept ++ g :: gs ++ y :: post = kept ++ g :: (gs ++ y :: post) by simp, idx_mid, Option.bind_some, set_mid, W_succ _ (by omega), W_succ _ (by omega)]
      have := del_loop x0 ha post (kept ++ [y]) (gs ++ [y]) m (by simp at hl ⊢; omega) (by simp) (by simp at hm; omega)
      rw [show kept ++ [y] ++ (gs ++ [y]) ++ post = kept ++ y :: (gs ++ y :: post) by simp, show (kept ++ [y]).length + (gs ++ [y]).length = kept.length + (g :: gs).length + 1 by simp; omega, len_snoc kept y] at this
      refine Eq.trans this ?_
      rw [List.filter_cons, hq]; simp
    · rw [if_pos rfl]
      unfold slices_DeleteFunc_s_link_body_link_body.J3 slices_DeleteFunc_s_link_body_link_body.J2
      rw [if_neg (by decide), W_succ _ (by omega)]
      have := del_loop x0 ha post kept (g :: gs ++ [y]) m (by simp at hl ⊢; omega) (by simp) (by simp at hm; omega)
      rw [show kept ++ (g :: gs ++ [y]) ++ post = kept ++ g :: gs ++ y :: post by simp, show kept.length + (g :: gs ++ [y]).length = kept.length + (g :: gs).length + 1 by simp; omega] at this
      refine Eq.trans this ?_
      rw [List.filter_cons, hq]; simp
theorem del_is (xs : List S_link_body) (ha : xs.length ≤ 4000) : slices_DeleteFunc_s_link_body_link_body 5000 xs p = some (xs.filter fun y => !q y) := by
  unfold slices_DeleteFunc_s_link_body_link_body slices_IndexFunc_s_link_body_link_body
  rcases split_first q xs with h | ⟨a, y, b, e, h, hy⟩
  · have := ix_skip q p hp xs (by omega) xs [] [] (5000 - xs.length) (by simp) h
    rw [show 5000 - xs.length + xs.length = 5000 by omega] at this
    rw [show ((0 : Int)) = (([] : List S_link_body).length : Int) from rfl, this]
    obtain ⟨m, hm⟩ : ∃ m, 5000 - xs.length = m + 1 := ⟨5000 - xs.length - 1, by omega⟩
    rw [hm, slices_IndexFunc_s_link_body_link_body.L1, if_neg (by simp), Option.bind_some, if_pos rfl]
    rw [List.filter_eq_self.2 (fun z hz => by rw [h z hz]; rfl)]
  · have hl : a.length + b.length + 1 = xs.length := by rw [e]; simp; omega
    have := ix_skip q p hp xs (by omega) a [] (y :: b) (5000 - a.length) (by simpa using e) h
    rw [show 5000 - a.length + a.length = 5000 by omega] at this
    rw [show ((0 : Int)) = (([] : List S_link_body).length : Int) from rfl, this]
    obtain ⟨m, hm⟩ : ∃ m, 5000 - a.length = m + 1 := ⟨5000 - a.length - 1, by omega⟩
    have hix : idx xs ((([] : List S_link_body).length + a.length : Nat) : Int) = some y := by
      rw [List.length_nil, Nat.zero_add, e]; exact idx_mid _ _ _
    rw [hm, slices_IndexFunc_s_link_body_link_body.L1, if_pos (by simp; omega), hix, Option.bind_some, hp, Option.bind_some, if_pos hy, Option.bind_some, if_neg (by omega), List.length_nil, Nat.zero_add, W_succ _ (by omega)]
    have h2 := del_loop q p hp xs (by omega) b a [y] 5000 (by simp; omega) (by simp) (by omega)
    rw [show a ++ [y] ++ b = xs by rw [e]; simp] at h2
    refine Eq.trans h2 ?_
    rw [e, List.filter_append, (List.filter_eq_self (l := a)).2 (fun z hz => by rw [h z hz]; rfl), List.filter_cons, hy]
    simp
end
-- what came early
theorem find_none (r : S_ref16_Link) (q : Int) : ∀ (post pre : List (Int × List Int)) (m : Nat), r.Early = (pre ++ post).map toE → (pre ++ post).length ≤ 4000 → post.length < m → mget post q = none → ref16_Link_find.L1 r q m (pre.length : Int) = some (-1)
  | [], pre, m, e, hl, hm, h => by
    obtain ⟨m, rfl⟩ : ∃ q, m = q + 1 := ⟨m - 1, by omega⟩
    rw [ref16_Link_find.L1, if_neg (by rw [e]; simp)]
  | x :: post, pre, m, e, hl, hm, h => by
    obtain ⟨m, rfl⟩ : ∃ q, m = q + 1 := ⟨m - 1, by omega⟩
    have hi : idx r.Early (pre.length : Int) = some (toE x) := by
      rw [e, List.map_append, List.map_cons]; have := idx_mid (pre.map toE) (toE x) (post.map toE); rwa [List.length_map] at this
    obtain ⟨k, v⟩ := x
    simp only [mget] at h
    have hk : ¬ k = q := fun e => by rw [if_pos e] at h; cases h
    rw [if_neg hk] at h
    have hlt : pre.length < 4000 := by simp at hl; omega
    rw [ref16_Link_find.L1, if_pos (by rw [e]; simp; omega), hi, Option.bind_some, if_neg (show ¬ (toE (k, v)).Seq = q from hk), W_succ _ (by omega), ← len_snoc pre (k, v)]
    exact find_none r q post (pre ++ [(k, v)]) m (by rw [e]; simp) (by simpa using hl) (by simp at hm; omega) h
theorem find_some (r : S_ref16_Link) (q : Int) (v : List Int) : ∀ (post pre : List (Int × List Int)) (m : Nat), r.Early = (pre ++ post).map toE → (pre ++ post).length ≤ 4000 → post.length < m → mget post q = some v → ∃ i : Nat, ref16_Link_find.L1 r q m (pre.length : Int) = some (i : Int) ∧ idx r.Early (i : Int) = some ⟨q, v⟩
  | [], pre, m, e, hl, hm, h => by simp [mget] at h
  | x :: post, pre, m, e, hl, hm, h => by
    obtain ⟨m, rfl⟩ : ∃ q, m = q + 1 := ⟨m - 1, by omega⟩
    have hi : idx r.Early (pre.length : Int) = some (toE x) := by
      rw [e, List.map_append, List.map_cons]; have := idx_mid (pre.map toE) (toE x) (post.map toE); rwa [List.length_map] at this
    obtain ⟨k, y⟩ := x
    have hlt : pre.length < 4000 := by simp at hl; omega
    rw [ref16_Link_find.L1, if_pos (by rw [e]; simp; omega), hi, Option.bind_some]
    simp only [mget] at h
    by_cases hk : k = q
    · rw [if_pos hk] at h
      injection h with h
      subst h hk
      rw [if_pos (show (toE (k, y)).Seq = k from rfl)]
      exact ⟨pre.length, rfl, hi⟩
    · rw [if_neg hk] at h
      rw [if_neg (show ¬ (toE (k, y)).Seq = q from hk), W_succ _ (by omega), ← len_snoc pre (k, y)]
      exact find_some r q v post (pre ++ [(k, y)]) m (by rw [e]; simp) (by simpa using hl) (by simp at hm; omega) h
theorem l7_is (z : List (List Int)) (k6 : S_ref16_Link → List (List Int) → Option (List (List Int) × Int × S_ref16_Link)) (r : S_ref16_Link) : ∀ (post pre acc : List S_ref16_Early) (m : Nat), r.Early = pre ++ post → (pre ++ post).length ≤ 4000 → acc.length ≤ pre.length → post.length < m →
    ref16_Link_Hear.L7 z k6 m r acc (pre.length : Int) = k6 { r with Early := acc ++ post.filter fun e => decide (e.Seq ≠ r.Got) } z
  | [], pre, acc, m, e, hl, ha, hm => by
    obtain ⟨m, rfl⟩ : ∃ q, m = q + 1 := ⟨m - 1, by omega⟩
    rw [ref16_Link_Hear.L7, if_neg (by rw [e]; simp)]
    simp
  | x :: post, pre, acc, m, e, hl, ha, hm => by
    obtain ⟨m, rfl⟩ : ∃ q, m = q + 1 := ⟨m - 1, by omega⟩
    have hlt : pre.length < 4000 := by simp at hl; omega
    have hi : idx r.Early (pre.length : Int) = some x := by rw [e]; exact idx_mid _ _ _
    have hih : ∀ acc' : List S_ref16_Early, acc'.length ≤ pre.length + 1 → ref16_Link_Hear.L7 z k6 m r acc' ((pre.length + 1 : Nat) : Int) = k6 { r with Early := acc' ++ post.filter fun e => decide (e.Seq ≠ r.Got) } z := by
      intro acc' h'
      rw [← len_snoc pre x]
      exact l7_is z k6 r post (pre ++ [x]) acc' m (by rw [e]; simp) (by simpa using hl) (by simp; omega) (by simp at hm; omega)
    rw [ref16_Link_Hear.L7, if_pos (by rw [e]; simp; omega), hi, Option.bind_some]
    by_cases c : x.Seq ≠ r.Got
    · rw [if_pos c, Option.bind_some, app_ok _ _ (by simp; omega), Option.bind_some]
      unfold ref16_Link_Hear.J8
      rw [W_succ _ (by omega), hih _ (by simp; omega), List.filter_cons, if_pos (decide_eq_true c)]
      simp
    · rw [if_neg c]
      unfold ref16_Link_Hear.J8
      rw [W_succ _ (by omega), hih _ (by omega), List.filter_cons, if_neg (by simpa using c)]
theorem mget_len {l : List (Int × List Int)} {k : Int} {v : List Int} (hn : (l.map Prod.fst).Nodup) (h : mget l k = some v) : (mdel l k).length + 1 = l.length := by
  induction l with
  | nil => simp [mget] at h
  | cons p l ih =>
    obtain ⟨k', x⟩ := p
    simp only [List.map_cons, List.nodup_cons] at hn
    simp only [mget] at h
    by_cases hk : k' = k
    · simp [mdel, hk]
    · rw [if_neg hk] at h
      simp only [mdel, hk, if_false, List.length_cons, ih hn.2 h]
theorem pop_is : ∀ (n : Nat) (l : S_link_Link) (o : List (List Int)) (m m2 : Nat), l.early.length ≤ n → n < m → n < m2 → n ≤ 4000 → (l.early.map Prod.fst).Nodup → 0 ≤ l.got → l.got + l.early.length ≤ 4000 → o.length + n ≤ 10000 →
    ∃ (o' : List (List Int)) (l' : S_link_Link), link_Link_Hear.L4 m l o = some (o', 0, l') ∧ ref16_Link_Hear.L6 5000 m2 (toR l) o = some (o', 0, toR l') ∧ l' = { l with got := l'.got, early := l'.early } ∧ l.got ≤ l'.got ∧ l'.got + l'.early.length ≤ l.got + l.early.length ∧ (l'.early.map Prod.fst).Nodup ∧ o'.length ≤ o.length + n := by
  intro n
  induction n with
  | zero =>
    intro l o m m2 hn hm hm2 h4 hd hg hge ho
    obtain ⟨m, rfl⟩ : ∃ q, m = q + 1 := ⟨m - 1, by omega⟩
    obtain ⟨m2, rfl⟩ : ∃ q, m2 = q + 1 := ⟨m2 - 1, by omega⟩
    have hnil : l.early = [] := List.eq_nil_of_length_eq_zero (by omega)
    refine ⟨o, l, ?_, ?_, rfl, Int.le_refl _, Int.le_refl _, hd, by omega⟩
    · rw [link_Link_Hear.L4, Option.bind_some, hnil, if_neg (by simp [mget])]
    · have hf : ref16_Link_find 5000 (toR l) (IntKind.i64.wrap ((toR l).Got + 1)) = some (-1) := find_none _ _ [] [] 5000 (by show l.early.map toE = _; rw [hnil]; rfl) (by simp) (by simp) rfl
      rw [ref16_Link_Hear.L6, hf, Option.bind_some, if_neg (by decide)]
  | succ n ih =>
    intro l o m m2 hn hm hm2 h4 hd hg hge ho
    obtain ⟨m, rfl⟩ : ∃ q, m = q + 1 := ⟨m - 1, by omega⟩
    obtain ⟨m2, rfl⟩ : ∃ q, m2 = q + 1 := ⟨m2 - 1, by omega⟩
    have hW : IntKind.i64.wrap (l.got + 1) = l.got + 1 := W_in (by omega)
    have hlen : l.early.length ≤ 4000 := by omega
    cases hgt : mget l.early (l.got + 1) with
    | none =>
      refine ⟨o, l, ?_, ?_, rfl, Int.le_refl _, Int.le_refl _, hd, by omega⟩
      · rw [link_Link_Hear.L4, Option.bind_some, hW, hgt, if_neg (by decide)]
      · have hf : ref16_Link_find 5000 (toR l) (IntKind.i64.wrap ((toR l).Got + 1)) = some (-1) := find_none _ _ l.early [] 5000 rfl (by simpa using hlen) (by omega) (by show mget l.early (IntKind.i64.wrap (l.got + 1)) = none; rw [hW]; exact hgt)
        rw [ref16_Link_Hear.L6, hf, Option.bind_some, if_neg (by decide)]
    | some v =>
      have hle := mget_len hd hgt
      have hdd : ((mdel l.early (l.got + 1)).map Prod.fst).Nodup := by
        rw [mdel_filter hd]; exact hd.sublist (List.filter_sublist.map _)
      obtain ⟨o', l', e1, e2, e3, e4, e5, e6, e7⟩ := ih { l with got := l.got + 1, early := mdel l.early (l.got + 1) } (o ++ [v]) m m2 (by show (mdel _ _).length ≤ n; omega) (by omega) (by omega) (by omega) hdd (by show 0 ≤ l.got + 1; omega) (by show l.got + 1 + ((mdel l.early (l.got + 1)).length : Int) ≤ 4000; omega) (by simp; omega)
      refine ⟨o', l', ?_, ?_, ?_, ?_, ?_, e6, ?_⟩
      · rw [link_Link_Hear.L4, Option.bind_some, hW, hgt, if_pos (show (some v).isSome = true from rfl), Option.getD_some, app_ok _ _ (by simp; omega), Option.bind_some]
        exact e1
      · obtain ⟨i, hf, hi⟩ := find_some (toR l) (l.got + 1) v l.early [] 5000 rfl (by simpa using hlen) (by omega) hgt
        have hf2 : ref16_Link_find 5000 { toR l with Got := l.got + 1 } (l.got + 1) = some (i : Int) := by
          obtain ⟨i2, hf2, hi2⟩ := find_some { toR l with Got := l.got + 1 } (l.got + 1) v l.early [] 5000 rfl (by simpa using hlen) (by omega) hgt
          -- the same search
          have hs : ∀ (m : Nat) (j : Int), ref16_Link_find.L1 { toR l with Got := l.got + 1 } (l.got + 1) m j = ref16_Link_find.L1 (toR l) (l.got + 1) m j := by
            intro m
            induction m with
            | zero => intro j; rfl
            | succ m ihm => intro j; rw [ref16_Link_find.L1, ref16_Link_find.L1]; simp only [ihm]
          unfold ref16_Link_find
          rw [hs]
          exact hf
        have hf1 : ref16_Link_find 5000 (toR l) (IntKind.i64.wrap ((toR l).Got + 1)) = some (i : Int) := by
          rw [show (toR l).Got = l.got from rfl, hW]; exact hf
        rw [ref16_Link_Hear.L6, hf1, Option.bind_some, if_pos (by omega), show (toR l).Got = l.got from rfl, hW]
        refine Eq.trans (congrArg (fun x => Option.bind x _) hf2) ?_
        rw [Option.bind_some, hi, Option.bind_some, app_ok _ _ (by simp; omega), Option.bind_some]
        have h7 := l7_is (o ++ [v]) (ref16_Link_Hear.L6 5000 m2) { toR l with Got := l.got + 1 } (l.early.map toE) [] [] 5000 rfl (by simpa using hlen) (by simp) (by simp; omega)
        refine Eq.trans h7 ?_
        have : ({ toR l with Got := l.got + 1, Early := [] ++ (l.early.map toE).filter fun e => decide (e.Seq ≠ l.got + 1) } : S_ref16_Link) = toR { l with got := l.got + 1, early := mdel l.early (l.got + 1) } := by
          rw [List.nil_append, mdel_filter hd, List.filter_map]
          rfl
        refine Eq.trans (congrArg (fun x => ref16_Link_Hear.L6 5000 m2 x (o ++ [v])) this) e2
      · rw [e3]
      · have : l.got + 1 ≤ l'.got := e4
        omega
      · have : l'.got + (l'.early.length : Int) ≤ l.got + 1 + ((mdel l.early (l.got + 1)).length : Int) := e5
        omega
      · simp at e7; omega
end Go.Proofs.Ytjileigclbohdaa
