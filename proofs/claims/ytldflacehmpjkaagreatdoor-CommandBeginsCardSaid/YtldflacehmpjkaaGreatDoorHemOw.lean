import Derived.Test.YtldflacehmpjkaaGreatDoorHemZ
set_option linter.unusedVariables false
namespace Go.Hem
def Apart (a b : List Nat) : Prop:=∀ x ∈ a,x ∉ b
theorem Apart.symm {a b : List Nat} (h : Apart a b) : Apart b a:=fun x hx hy => h x hy hx
theorem Apart.nil_left {b : List Nat} : Apart [] b:=fun x hx => by simp at hx
theorem Apart.nil_right {b : List Nat} : Apart b []:=fun x _ h => by simp at h
theorem Apart.app {a b c : List Nat} (h : Apart a c) (k : Apart b c) : Apart (a ++ b) c:=fun x hx => by
  rcases List.mem_append.1 hx with h1 | h1
  · exact h x h1
  · exact k x h1
theorem Apart.app_right {a b c : List Nat} (h : Apart c a) (k : Apart c b) : Apart c (a ++ b):=(h.symm.app k.symm).symm
theorem Apart.cons {a : Nat} {b c : List Nat} (h : a ∉ c) (k : Apart b c) : Apart (a :: b) c:=fun x hx => by
  rcases List.mem_cons.1 hx with rfl | h1
  · exact h
  · exact k x h1
inductive OwnL (O : AHeap→AV→AV→List Nat→Prop) (H : AHeap) : List AV→List AV→List Nat→Prop
  | nil : OwnL O H [] [] []
  | cons {v u : AV} {vs us : List AV} {f g : List Nat} : O H v u f→OwnL O H vs us g→Apart f g→OwnL O H (v :: vs) (u :: us) (f ++ g)
def OwnX (I : Bool) : Nat→AHeap→AV→AV→List Nat→Prop
  | 0,_,_,_,_ => False
  | d + 1,H,v,u,fp =>
    match v with
    | .sc s => u = .sc s∧fp = []
    | .imm l => I = true∧u = .imm l∧fp = []∧AV.closedBs l = true
    | .agg cs => ∃ us,u = .agg us∧OwnL (OwnX I d) H cs us fp
    | .slice b off len cap n =>
      (I = true∧len = 0∧u = .imm []∧fp = []) ∨
      (∃ cs us fp',H.cells b = some cs∧(n ≠ 0∧len ≤ cap)∧(I = false→off = 0∧2 ≤ n)∧off + len * n ≤ cs.length∧OwnL (OwnX I d) H ((cs.drop off).take (len * n)) us fp'∧b ∉ fp'∧(n = 1→∀ w ∈ us,w.cells = [w])∧u = .imm (rows n len us)∧fp = b :: fp')
    | _ => False
abbrev Own:=OwnX true
section
variable {I : Bool} {O : AHeap→AV→AV→List Nat→Prop} {H H' : AHeap} {d n : Nat}
theorem OwnL.len {cs us : List AV} {fp : List Nat} (h : OwnL O H cs us fp) : cs.length = us.length:=by
  induction h with
  | nil => rfl
  | cons _ _ _ ih => simp [ih]
theorem OwnL.append {cs us cs' us' : List AV} {fp fp' : List Nat} (h : OwnL O H cs us fp) (k : OwnL O H cs' us' fp') (ha : Apart fp fp') : OwnL O H (cs ++ cs') (us ++ us') (fp ++ fp'):=by
  induction h with
  | nil => exact k
  | cons h1 h2 h3 ih =>
    rename_i v u vs us f g
    rw [List.append_assoc]
    exact .cons h1 (ih fun x hx => ha x (List.mem_append.2 (.inr hx))) (h3.app_right fun x hx => ha x (List.mem_append.2 (.inl hx)))
theorem OwnL.split {cs us : List AV} {fp : List Nat} (h : OwnL O H cs us fp) : ∀ (k : Nat),∃ f g,OwnL O H (cs.take k) (us.take k) f∧OwnL O H (cs.drop k) (us.drop k) g∧Apart f g∧fp = f ++ g:=by
  induction h with
  | nil => intro k; exact ⟨[],[],by simpa using OwnL.nil,by simpa using OwnL.nil,Apart.nil_left,rfl⟩
  | cons h1 h2 h3 ih =>
    rename_i v u vs us f g
    intro k
    cases k with
    | zero => exact ⟨[],f ++ g,.nil,.cons h1 h2 h3,Apart.nil_left,rfl⟩
    | succ k =>
      obtain ⟨f',g',a1,a2,a3,rfl⟩:=ih k
      refine ⟨f ++ f',g',.cons h1 a1 (fun x hx hy => h3 x hx (List.mem_append.2 (.inl hy))),a2,Apart.app (fun x hx hy => h3 x hx (List.mem_append.2 (.inr hy))) a3,by simp⟩
theorem OwnL.frame {cs us : List AV} {fp : List Nat} (hO : ∀ v u f,O H v u f→(∀ b ∈ f,H'.cells b = H.cells b)→O H' v u f) (h : OwnL O H cs us fp) : (∀ b ∈ fp,H'.cells b = H.cells b)→OwnL O H' cs us fp:=by
  induction h with
  | nil => intro _; exact .nil
  | cons h1 h2 h3 ih => exact fun hb => .cons (hO _ _ _ h1 fun b h => hb b (List.mem_append.2 (.inl h))) (ih fun b h => hb b (List.mem_append.2 (.inr h))) h3
theorem OwnX.frame : ∀ {d : Nat} {v u : AV} {fp : List Nat},OwnX I d H v u fp→(∀ b ∈ fp,H'.cells b = H.cells b)→OwnX I d H' v u fp
  | 0,_,_,_,h,_ => h
  | d + 1,v,u,fp,h,hb => by
    cases v <;> simp only [OwnX] at h ⊢
    case sc => exact h
    case imm => exact h
    case agg cs =>
      obtain ⟨us,h1,h2⟩:=h
      exact ⟨us,h1,h2.frame (fun _ _ _ a b => OwnX.frame a b) hb⟩
    case slice b off len cap n =>
      rcases h with h | ⟨cs,us,fp',h1,h2,h3,h4,h5,h6,hq,h7,rfl⟩
      · exact .inl h
      · exact .inr ⟨cs,us,fp',by rw [hb b (by simp)]; exact h1,h2,h3,h4,h5.frame (fun _ _ _ a b => OwnX.frame a b) (fun c hc => hb c (by simp [hc])),h6,hq,h7,rfl⟩
theorem OwnL.lt (hO : ∀ v u f,O H v u f→∀ b ∈ f,b < H.next) {cs us : List AV} {fp : List Nat} (h : OwnL O H cs us fp) : ∀ b ∈ fp,b < H.next:=by
  induction h with
  | nil => intro b hb; simp at hb
  | cons h1 h2 h3 ih =>
    intro b hb
    rcases List.mem_append.1 hb with hb | hb
    · exact hO _ _ _ h1 b hb
    · exact ih b hb
theorem h_lt' {b : Nat} {z : List AV} (h : H.cells b = some z) : b < H.next:=by
  unfold AHeap.cells at h
  split at h
  · rename_i q; exact AHeap.get_lt q
  · cases h
theorem OwnX.lt : ∀ {d : Nat} {v u : AV} {fp : List Nat},OwnX I d H v u fp→∀ b ∈ fp,b < H.next
  | 0,_,_,_,h => h.elim
  | d + 1,v,u,fp,h => by
    cases v <;> simp only [OwnX] at h
    case sc => obtain ⟨_,rfl⟩:=h; intro b hb; simp at hb
    case imm => obtain ⟨_,_,rfl,_⟩:=h; intro b hb; simp at hb
    case agg cs =>
      obtain ⟨us,h1,h2⟩:=h
      exact h2.lt fun _ _ _ a => OwnX.lt a
    case slice b off len cap n =>
      rcases h with ⟨_,_,_,rfl⟩ | ⟨cs,us,fp',h1,h2,h3,h4,h5,h6,hq,h7,rfl⟩
      · intro b hb; simp at hb
      · intro c hc
        rcases List.mem_cons.1 hc with rfl | hc
        · exact h_lt' h1
        · exact h5.lt (fun _ _ _ a => OwnX.lt a) c hc
theorem OwnL.le {O' : AHeap→AV→AV→List Nat→Prop} (hO : ∀ v u f,O H v u f→O' H v u f) {cs us : List AV} {fp : List Nat} (h : OwnL O H cs us fp) : OwnL O' H cs us fp:=by
  induction h with
  | nil => exact .nil
  | cons h1 h2 h3 ih => exact .cons (hO _ _ _ h1) ih h3
theorem OwnX.succ : ∀ {d : Nat} {v u : AV} {fp : List Nat},OwnX I d H v u fp→OwnX I (d + 1) H v u fp
  | 0,_,_,_,h => h.elim
  | d + 1,v,u,fp,h => by
    cases v <;> simp only [OwnX] at h
    case sc => simp only [OwnX]; exact h
    case imm => simp only [OwnX]; exact h
    case agg cs =>
      obtain ⟨us,h1,h2⟩:=h
      exact ⟨us,h1,h2.le fun _ _ _ a => OwnX.succ a⟩
    case slice b off len cap n =>
      rcases h with h | ⟨cs,us,fp',h1,h2,h3,h4,h5,h6,hq,h7,rfl⟩
      · exact .inl h
      · exact .inr ⟨cs,us,fp',h1,h2,h3,h4,h5.le fun _ _ _ a => OwnX.succ a,h6,hq,h7,rfl⟩
theorem OwnX.mono {d d' : Nat} {v u : AV} {fp : List Nat} (h : OwnX I d H v u fp) (k : d ≤ d') : OwnX I d' H v u fp:=by
  induction k with
  | refl => exact h
  | step _ ih => exact ih.succ
def Less (H H1 : AHeap) (fp : List Nat) : Prop:=∀ b,b ∉ fp→H1.get b = H.get b
theorem cells_of_get {b : Nat} (h : H'.get b = H.get b) : H'.cells b = H.cells b:=by unfold AHeap.cells; rw [h]
theorem freezeL_own {g : AV→AHeap→Option (AV × AHeap)} (hg : ∀ (H : AHeap) v u f,O H v u f→∃ H1,g v H = some (u,H1)∧AV.closedB u = true∧Less H H1 f)
    (hO : ∀ (H H' : AHeap) v u f,O H v u f→(∀ b ∈ f,H'.cells b = H.cells b)→O H' v u f) :
    ∀ {cs us : List AV} {fp : List Nat} {H : AHeap},OwnL O H cs us fp→∃ H1,freezeL g cs H = some (us,H1)∧AV.closedBs us = true∧Less H H1 fp
  | _,_,_,H,.nil => ⟨H,rfl,rfl,fun _ _ => rfl⟩
  | _,_,_,H,.cons (v:=v) (u:=u) (vs:=vs) (us:=us) (f:=f) (g:=g') h1 h2 h3 => by
    obtain ⟨H1,a1,a2,a3⟩:=hg H _ _ _ h1
    have h2' : OwnL O H1 vs us g':=h2.frame (fun v u f a b => hO H H1 v u f a b) (fun b hb => cells_of_get (a3 b (h3.symm b hb)))
    obtain ⟨H2,b1,b2,b3⟩:=freezeL_own hg hO h2'
    refine ⟨H2,by rw [fz_cons,a1]; simp only [Option.bind_some,b1]; rfl,by rw [cl_cons,a2,b2]; rfl,fun b hb => ?_⟩
    rw [b3 b fun h => hb (List.mem_append.2 (.inr h)),a3 b fun h => hb (List.mem_append.2 (.inl h))]
theorem closedBs_drop : ∀ (m : Nat) (l : List AV),AV.closedBs l = true→AV.closedBs (l.drop m) = true
  | 0,l,h => h
  | m + 1,[],h => h
  | m + 1,v :: l,h => by
    simp only [AV.closedBs,Bool.and_eq_true] at h
    exact closedBs_drop m l h.2
theorem closedBs_take : ∀ (m : Nat) (l : List AV),AV.closedBs l = true→AV.closedBs (l.take m) = true
  | 0,l,h => rfl
  | m + 1,[],h => rfl
  | m + 1,v :: l,h => by
    simp only [AV.closedBs,Bool.and_eq_true,List.take_succ_cons] at h ⊢
    exact ⟨h.1,closedBs_take m l h.2⟩
theorem closedB_rows : ∀ (k : Nat) (cs : List AV),n ≠ 0→k * n ≤ cs.length→AV.closedBs cs = true→AV.closedBs (rows n k cs) = true
  | 0,_,_,_,_ => rfl
  | k + 1,cs,hn,hl,h => by
    have e : (k + 1) * n = k * n + n:=by rw [Nat.succ_mul]
    simp only [rows,AV.closedBs,Bool.and_eq_true]
    refine ⟨?_,closedB_rows k _ hn (by simp; omega) (closedBs_drop n cs h)⟩
    split
    · cases cs with
      | nil => simp at hl; omega
      | cons v l => simp only [AV.closedBs,Bool.and_eq_true] at h; exact h.1
    · exact closedBs_take n cs h
theorem freezeV_own : ∀ {d : Nat} {H : AHeap} {v u : AV} {fp : List Nat},OwnX I d H v u fp→∃ H1,freezeV d v H = some (u,H1)∧AV.closedB u = true∧Less H H1 fp
  | 0,_,_,_,_,h => h.elim
  | d + 1,H,v,u,fp,h => by
    cases v <;> simp only [OwnX] at h
    case sc => obtain ⟨rfl,rfl⟩:=h; exact ⟨H,rfl,rfl,fun _ _ => rfl⟩
    case imm => obtain ⟨_,rfl,rfl,hc⟩:=h; exact ⟨H,rfl,hc,fun _ _ => rfl⟩
    case agg cs =>
      obtain ⟨us,rfl,h2⟩:=h
      obtain ⟨H1,a1,a2,a3⟩:=freezeL_own (O:=OwnX I d) (fun H v u f => freezeV_own) (fun H H' v u f a b => OwnX.frame a b) h2
      exact ⟨H1,by rw [fz_agg,a1]; rfl,a2,a3⟩
    case slice b off len cap n =>
      rcases h with ⟨_,rfl,rfl,rfl⟩ | ⟨cs,us,fp',h1,h2,h3,h4,h5,h6,hq,rfl,rfl⟩
      · exact ⟨H,rfl,rfl,fun _ _ => rfl⟩
      by_cases h0 : len = 0
      · subst h0; exact ⟨H,rfl,rfl,fun _ _ => rfl⟩
      · have h5' : OwnL (OwnX I d) (H.put b none) ((cs.drop off).take (len * n)) us fp':=h5.frame (fun v u f a b => OwnX.frame a b) (fun c hc => cells_of_get (AHeap.get_put_ne H _ fun e => h6 (e ▸ hc)))
        obtain ⟨H1,a1,a2,a3⟩:=freezeL_own (O:=OwnX I d) (fun H v u f => freezeV_own) (fun H H' v u f a b => OwnX.frame a b) h5'
        have hlen:=h5.len
        refine ⟨H1.addFr b (List.replicate off .poison ++ us),?_,?_,fun c hc => ?_⟩
        · simp only [freezeV,if_neg h0,h1,if_neg (show ¬ (n = 0 ∨ off + len * n > cs.length) by omega),a1]
          rfl
        · simp only [AV.closedB]
          refine closedB_rows _ _ h2.1 ?_ a2
          rw [← hlen]; simp; omega
        · simp only [List.mem_cons,not_or] at hc
          rw [AHeap.get_addFr,a3 c hc.2,AHeap.get_put_ne H _ hc.1]
theorem OwnX.frz {v u : AV} {fp : List Nat} (h : OwnX I d H v u fp) (hd : d ≤ 20) : Frz v H u:=by
  obtain ⟨H1,h1,h2,_⟩:=freezeV_own (h.mono hd)
  exact ⟨H1,h1,h2⟩
theorem Own.plain {v : AV} (h : v.plain1 = true) : Own (d + 1) H v v []:=by
  cases v <;> simp [AV.plain1] at h
  · exact ⟨rfl,rfl⟩
  · exact ⟨rfl,rfl,rfl,h⟩
theorem OwnL.plain {cs : List AV} (h : ∀ v ∈ cs,v.plain1 = true) : OwnL (Own (d + 1)) H cs cs []:=by
  induction cs with
  | nil => exact .nil
  | cons v l ih => exact .cons (f:=[]) (g:=[]) (Own.plain (h v (by simp))) (ih fun v hv => h v (by simp [hv])) Apart.nil_left
theorem OwnL.single {v u : AV} {fp : List Nat} (h : O H v u fp) : OwnL O H [v] [u] fp:=by
  have:=OwnL.cons h (.nil (O:=O) (H:=H)) Apart.nil_right
  simpa using this
theorem OwnL.mono {d' : Nat} {cs us : List AV} {fp : List Nat} (h : OwnL (OwnX I d) H cs us fp) (k : d ≤ d') : OwnL (OwnX I d') H cs us fp:=h.le fun _ _ _ a => a.mono k
theorem OwnL.fr {cs us : List AV} {fp : List Nat} (h : OwnL (OwnX I d) H cs us fp) (hb : ∀ b ∈ fp,H'.cells b = H.cells b) : OwnL (OwnX I d) H' cs us fp:=h.frame (fun _ _ _ a b => OwnX.frame a b) hb
theorem OwnL.lts {cs us : List AV} {fp : List Nat} (h : OwnL (OwnX I d) H cs us fp) : ∀ b ∈ fp,b < H.next:=h.lt fun _ _ _ a => OwnX.lt a
variable {α : Type} {f : α→AV} {bytes : Nat}
def AccX (I : Bool) (d n : Nat) (f : α→AV) (H : AHeap) (v : AV) (s : Sl α) (fp : List Nat) : Prop :=
  (v = .sc .nils∧s = none∧fp = []) ∨
  ∃ b cap cs rest fp' l,s = some l∧v = .slice b 0 l.length cap n∧l.length ≤ cap∧H.cells b = some (cs ++ rest)∧cs.length = l.length * n∧rest.length = (cap - l.length) * n ∧
    OwnL (OwnX I d) H cs (l.flatMap fun x => (f x).cells) fp'∧b ∉ fp'∧fp = b :: fp'
abbrev Acc {α : Type} (d n : Nat) (f : α→AV) (H : AHeap) (v : AV) (s : Sl α) (fp : List Nat) : Prop:=AccX true d n f H v s fp
theorem AccX.fr {v : AV} {s : Sl α} {fp : List Nat} (h : AccX I d n f H v s fp) (hb : ∀ b ∈ fp,H'.cells b = H.cells b) : AccX I d n f H' v s fp:=by
  rcases h with h | ⟨b,cap,cs,rest,fp',l,h1,h2,h3,h4,h5,h6,h7,h8,rfl⟩
  · exact .inl h
  · exact .inr ⟨b,cap,cs,rest,fp',l,h1,h2,h3,by rw [hb b (by simp)]; exact h4,h5,h6,h7.fr fun c hc => hb c (by simp [hc]),h8,rfl⟩
theorem AccX.lts {v : AV} {s : Sl α} {fp : List Nat} (h : AccX I d n f H v s fp) : ∀ b ∈ fp,b < H.next:=by
  rcases h with ⟨_,_,rfl⟩ | ⟨b,cap,cs,rest,fp',l,h1,h2,h3,h4,h5,h6,h7,h8,rfl⟩
  · intro b hb; simp at hb
  · intro c hc
    rcases List.mem_cons.1 hc with rfl | hc
    · exact h_lt' h4
    · exact h7.lts c hc
def RowOf (n : Nat) (f : α→AV) : Prop:=n ≠ 0∧∀ x,(f x).cells.length = n∧(if n = 1 then f x = ((f x).cells.headD .poison) else f x = .agg (f x).cells)
theorem rows_map (hf : RowOf n f) : ∀ (l : List α),rows n l.length (l.flatMap fun x => (f x).cells) = l.map f
  | [] => rfl
  | x :: l => by
    have h:=hf.2 x
    simp only [List.flatMap_cons,List.length_cons,rows,List.map_cons,List.cons.injEq]
    have e : ((f x).cells ++ l.flatMap fun x => (f x).cells).drop n = l.flatMap fun x => (f x).cells:=by
      rw [List.drop_append_of_le_length (by omega),List.drop_of_length_le (by omega)]; rfl
    rw [e]
    refine ⟨?_,rows_map hf l⟩
    split
    · rename_i h1
      rw [if_pos h1] at h
      have : (f x).cells ≠ []:=fun e => by have:=h.1; rw [e] at this; simp at this; omega
      obtain ⟨y,m,e2⟩:=List.exists_cons_of_ne_nil this
      have e3:=h.2
      rw [e2] at e3 ⊢
      rw [e3]; rfl
    · rename_i h1
      rw [if_neg h1] at h
      rw [List.take_append_of_le_length (by omega),List.take_of_length_le (by omega)]
      exact h.2.symm
theorem flat_len (hf : RowOf n f) : ∀ (l : List α),(l.flatMap fun x => (f x).cells).length = l.length * n
  | [] => by simp
  | x :: l => by simp only [List.flatMap_cons,List.length_append,flat_len hf l,(hf.2 x).1,List.length_cons,Nat.succ_mul]; omega
theorem row_one {l : List α} (hf : RowOf n f) : n = 1→∀ w ∈ l.flatMap (fun x => (f x).cells),w.cells = [w]:=fun h1 w hw => by
  obtain ⟨x,_,hx⟩:=List.mem_flatMap.1 hw
  have h:=hf.2 x
  rw [if_pos h1,h1] at h
  obtain ⟨c,hc⟩:=List.length_eq_one_iff.1 h.1
  have e : f x = c:=by rw [h.2,hc]; rfl
  rw [hc] at hx
  simp only [List.mem_singleton] at hx
  subst hx
  rw [← e] at hc ⊢
  exact hc
theorem AccX.own {v : AV} {s : Sl α} {fp : List Nat} (hf : RowOf n f) (h : AccX I d n f H v s fp) (hn : I = true ∨ n ≠ 1:=by first | decide | exact .inr (by decide)) : ∃ fp',OwnX I (d + 1) H v (slm f s) fp'∧∀ b ∈ fp',b ∈ fp:=by
  rcases h with ⟨rfl,rfl,rfl⟩ | ⟨b,cap,cs,rest,fp',l,rfl,rfl,h3,h4,h5,h6,h7,h8,rfl⟩
  · exact ⟨[],⟨rfl,rfl⟩,fun _ h => h⟩
  · refine ⟨b :: fp',.inr ⟨cs ++ rest,l.flatMap fun x => (f x).cells,fp',h4,⟨hf.1,h3⟩,fun hI => ⟨rfl,?_⟩,by simp; omega,?_,h8,row_one hf,?_,rfl⟩,fun _ h => h⟩
    · have h1:=hf.1
      rcases hn with hn | hn
      · rw [hn] at hI; cases hI
      · omega
    · have e : ((cs ++ rest).drop 0).take (l.length * n) = cs:=by
        rw [List.drop_zero,List.take_append_of_le_length (by omega),List.take_of_length_le (by omega)]
      rw [e]; exact h7
    · rw [rows_map hf]; rfl
theorem AccX.frz {v : AV} {s : Sl α} {fp : List Nat} (hf : RowOf n f) (h : AccX I d n f H v s fp) (hd : d < 20) (hn : I = true ∨ n ≠ 1:=by first | decide | exact .inr (by decide)) : Frz v H (slm f s):=by
  obtain ⟨fp',h1,_⟩:=h.own hf hn
  exact h1.frz hd
theorem AccX.length {v : AV} {s : Sl α} {fp : List Nat} (h : AccX I d n f H v s fp) : lenOf v = some (.sc (.int .i64 s.l.length)):=by
  rcases h with ⟨rfl,rfl,rfl⟩ | ⟨b,cap,cs,rest,fp',l,rfl,rfl,h3,h4,h5,h6,h7,h8,rfl⟩ <;> rfl
theorem AccX.one {v : AV} {s : Sl α} {fp : List Nat} (h : AccX I d n f H v s fp) : v.one = true:=by
  rcases h with ⟨rfl,rfl,rfl⟩ | ⟨b,cap,cs,rest,fp',l,rfl,rfl,h3,h4,h5,h6,h7,h8,rfl⟩ <;> rfl
theorem AccX.cells {v : AV} {s : Sl α} {fp : List Nat} (h : AccX I d n f H v s fp) : v.cells = [v]:=by
  rcases h with ⟨rfl,rfl,rfl⟩ | ⟨b,cap,cs,rest,fp',l,rfl,rfl,h3,h4,h5,h6,h7,h8,rfl⟩ <;> rfl
theorem AccX.app {v x : AV} {s : Sl α} {fp fp1 : List Nat} {ys : List α} {cs1 : List AV} (hf : RowOf n f) (h : AccX I d n f H v s fp) (hy : ys ≠ []) (hm : alen x = some ys.length) (hx : asrc n H x ys.length = some cs1)
    (ho : OwnL (OwnX I d) H cs1 (ys.flatMap fun y => (f y).cells) fp1) (ha : Apart fp fp1) (hb : (2 * (s.l.length + ys.length) + 1000) * bytes ≤ 2 ^ 47)
    {K : AHeap→Prop} {Q : AV→AHeap→Prop} {P : Program} {pol : Pol}
    (k : ∀ v' H' fp',AccX I d n f H' v' (some (s.l ++ ys)) fp'→H.next ≤ H'.next→(∀ b,b ∉ fp→b < H.next→H'.get b = H.get b)→(∀ b ∈ fp',b ∈ fp ∨ b ∈ fp1 ∨ H.next ≤ b)→K H'∧Q v' H') :
    wpOpt P pol K H Q (appTo n bytes H v x):=by
  have hyl : ys.length ≠ 0:=fun e => hy (List.length_eq_zero_iff.1 e)
  have hl1 : cs1.length = ys.length * n:=by rw [ho.len,flat_len hf]
  rcases h with ⟨rfl,rfl,rfl⟩ | ⟨b,cap,cs,rest,fp',l,rfl,rfl,h3,h4,h5,h6,h7,h8,rfl⟩
  · have e : appTo n bytes H (.sc .nils) x = some (.new (.cells cs1) fun b => .slice b 0 ys.length ys.length n):=by
      simp only [appTo,hm,hx,Option.bind_some,if_neg hyl]
      rw [if_pos (by simpa [Sl.l] using hb)]
    rw [e]
    refine (k _ (H.alloc (.cells cs1)) (H.next :: fp1) (.inr ⟨H.next,ys.length,cs1,[],fp1,ys,rfl,rfl,Nat.le_refl _,?_,hl1,by simp,?_,?_,rfl⟩) ?_ ?_ ?_).2
    · simp [h_alloc]
    · exact ho.fr fun c hc => by rw [h_alloc,if_neg (by have:=ho.lts c hc; omega)]
    · intro hc; have:=ho.lts _ hc; omega
    · simp
    · intro c _ hc; exact AHeap.get_alloc_ne H _ (by omega)
    · intro c hc
      rcases List.mem_cons.1 hc with rfl | hc
      · exact .inr (.inr (Nat.le_refl _))
      · exact .inr (.inl hc)
  · have hlb:=h_lt' h4
    have e0 : Sl.l (some l) = l:=rfl
    rw [e0] at hb k
    have hdis1 : b ∉ fp1:=ha b (by simp)
    have hdis2 : Apart fp' fp1:=fun c hc => ha c (by simp [hc])
    by_cases hc : l.length + ys.length ≤ cap
    · have hbound : l.length * n + cs1.length ≤ (cs ++ rest).length:=by
        have e1 : (cap - l.length) * n = cap * n - l.length * n:=Nat.sub_mul _ _ _
        have e2 : (l.length + ys.length) * n ≤ cap * n:=Nat.mul_le_mul_right n hc
        have e3 : (l.length + ys.length) * n = l.length * n + ys.length * n:=Nat.add_mul _ _ _
        have e4 : l.length * n ≤ cap * n:=Nat.mul_le_mul_right n h3
        simp only [List.length_append]; omega
      have e3 : (l.length + ys.length) * n = l.length * n + ys.length * n:=Nat.add_mul _ _ _
      have e : appTo n bytes H (.slice b 0 l.length cap n) x = some (.mem (.slice b 0 (l.length + ys.length) cap n) b (splice (cs ++ rest) (0 + l.length * n) cs1)):=by
        simp only [appTo,hm,hx,Option.bind_some,h4,ne_eq,not_true,if_false,if_pos hc]
        rw [if_pos (by simp only [List.length_append] at hbound ⊢; omega)]
      rw [e]
      have es : splice (cs ++ rest) (0 + l.length * n) cs1 = (cs ++ cs1) ++ rest.drop cs1.length:=by
        unfold splice
        rw [Nat.zero_add,List.take_append_of_le_length (by omega),List.take_of_length_le (by omega),List.drop_append,List.drop_of_length_le (by omega)]
        simp; congr 1; omega
      rw [es]
      have hg:=h_get h4
      refine k _ _ (b :: (fp' ++ fp1)) (.inr ⟨b,cap,cs ++ cs1,rest.drop cs1.length,fp' ++ fp1,l ++ ys,rfl,by simp,by simpa using hc,?_,?_,?_,?_,?_,rfl⟩) ?_ ?_ ?_
      · rw [h_put_self h4]
      · simp; omega
      · have e1 : (cap - (l ++ ys).length) * n = cap * n - (l.length + ys.length) * n:=by rw [List.length_append,Nat.sub_mul]
        have e2 : (cap - l.length) * n = cap * n - l.length * n:=Nat.sub_mul _ _ _
        rw [e1]; simp; omega
      · rw [List.flatMap_append]
        refine (OwnL.append h7 ho hdis2).fr fun c hcc => ?_
        rw [h_put_ne]
        rcases List.mem_append.1 hcc with h | h
        · exact fun e => h8 (e ▸ h)
        · exact fun e => hdis1 (e ▸ h)
      · intro h
        rcases List.mem_append.1 h with h | h
        · exact h8 h
        · exact hdis1 h
      · simp
      · intro c hc1 hc2
        exact AHeap.get_put_ne H _ fun e => hc1 (by simp [e])
      · intro c hcc
        rcases List.mem_cons.1 hcc with rfl | hcc
        · exact .inl (by simp)
        · rcases List.mem_append.1 hcc with h | h
          · exact .inl (by simp [h])
          · exact .inr (.inl h)
    · have e : appTo n bytes H (.slice b 0 l.length cap n) x = some (.move (fun b' => .slice b' 0 (l.length + ys.length) (l.length + ys.length) n) b ((cs ++ rest).take (l.length * n) ++ cs1)):=by
        simp only [appTo,hm,hx,Option.bind_some,h4,ne_eq,not_true,if_false,if_neg hc,true_and]
        rw [if_pos ⟨hb,by simp; omega⟩]
      rw [e]
      have es : (cs ++ rest).take (l.length * n) = cs:=by rw [List.take_append_of_le_length (by omega),List.take_of_length_le (by omega)]
      rw [es]
      have keep : ∀ c,c ≠ b→c < H.next→((H.put b none).alloc (.cells (cs ++ cs1))).get c = H.get c:=fun c h1 h2 => by
        rw [AHeap.get_alloc_ne _ _ (by simp; omega)]
        exact AHeap.get_put_ne H _ h1
      refine k _ _ (H.next :: (fp' ++ fp1)) (.inr ⟨H.next,l.length + ys.length,cs ++ cs1,[],fp' ++ fp1,l ++ ys,rfl,by simp,by simp,?_,?_,by simp,?_,?_,rfl⟩) ?_ ?_ ?_
      · rw [h_alloc,if_pos (by simp)]; simp
      · simp [hl1,h5,Nat.add_mul]
      · rw [List.flatMap_append]
        refine (OwnL.append h7 ho hdis2).fr fun c hcc => ?_
        rcases List.mem_append.1 hcc with h | h
        · exact cells_of_get (keep c (fun e => h8 (e ▸ h)) (h7.lts c h))
        · exact cells_of_get (keep c (fun e => hdis1 (e ▸ h)) (ho.lts c h))
      · intro h
        rcases List.mem_append.1 h with h | h
        · have:=h7.lts _ h; omega
        · have:=ho.lts _ h; omega
      · simp
      · intro c hc1 hc2
        exact keep c (fun e => hc1 (by simp [e])) hc2
      · intro c hcc
        rcases List.mem_cons.1 hcc with rfl | hcc
        · exact .inr (.inr (Nat.le_refl _))
        · rcases List.mem_append.1 hcc with h | h
          · exact .inl (by simp [h])
          · exact .inr (.inl h)
end
variable {I : Bool}
def Keep (lo : Nat) (H H' : AHeap) : Prop:=∀ b,b < lo→H'.cells b = H.cells b
section
variable {lo : Nat} {H H' H2 : AHeap}
theorem Keep.refl : Keep lo H H:=fun _ _ => rfl
theorem Keep.put {c : Nat} {x : Option Blk} (h : lo ≤ c) (k : Keep lo H H') : Keep lo H (H'.put c x):=fun b hb => by
  rw [cells_of_get (AHeap.get_put_ne H' x (show b ≠ c by omega)),k b hb]
theorem Keep.alloc {x : Blk} (h : lo ≤ H'.next) (k : Keep lo H H') : Keep lo H (H'.alloc x):=fun b hb => by
  rw [cells_of_get (AHeap.get_alloc_ne H' x (show b ≠ H'.next by omega)),k b hb]
theorem Keep.trans (h : Keep lo H H') (k : Keep lo H' H2) : Keep lo H H2:=fun b hb => by rw [k b hb,h b hb]
theorem Keep.le {lo' : Nat} (h : Keep lo H H') (k : lo' ≤ lo) : Keep lo' H H':=fun b hb => h b (by omega)
theorem Keep.cells {b : Nat} {z : List AV} (k : Keep lo H H') (h : H.cells b = some z) (hb : b < lo) : H'.cells b = some z:=by rw [k b hb,h]
theorem AccX.keep {α : Type} {f : α→AV} {d n : Nat} {v : AV} {s : Sl α} {fp : List Nat} (h : AccX I d n f H v s fp) (k : Keep H.next H H') : AccX I d n f H' v s fp:=h.fr fun b hb => k b (h.lts b hb)
theorem OwnX.keep {d : Nat} {v u : AV} {fp : List Nat} (h : OwnX I d H v u fp) (k : Keep H.next H H') : OwnX I d H' v u fp:=h.frame fun b hb => k b (h.lt b hb)
theorem rep_one {z : List AV} : rep 1 z = z:=by simp [rep]
end
theorem Own.frz {d : Nat} {H : AHeap} {v u : AV} {fp : List Nat} (h : Own d H v u fp) (hd : d ≤ 20) : Frz v H u:=OwnX.frz h hd
end Go.Hem
