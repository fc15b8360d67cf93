/-
  Upper-case letters, a dot at the end and percent signs do not change a domain name, as its tied card says. Conditions: what the card itself names (the package-level variables that are listed, tied to the program's text).
-/
import Derived.Test.YtokehocipgepnaaGreatDoorKG4
import Derived.Test.YtokehocipgepnaaGreatDoorCards
import Derived.Test.YtokehocipgepnaaGreatDoorTie
namespace Go.Proofs.YtokehocipgepnaaGreatDoor.E
open Go Go.Proofs Go.Sort
set_option linter.unusedVariables false
set_option linter.unusedSimpArgs false
set_option maxRecDepth 100000
theorem sins_res {C:Cfg} {σ:Type} {I:σ→(Nat→Prop)→(Nat→Prop)→World→Prop} (hI:HI I) {Γ:Ctx} {Φ:Nat→Prop} {w w':World} {z v1:Bool} {E e1 s1:Nat} {l l' m:LL} {s:σ} (g cap:Nat) (Vs:List Value) (cur:Array Value)
  (hnf:fixedT C E=false) (hH:HR Γ [.arr z E 1 l,.arr v1 e1 s1 m] w) (hi:I s Γ.St Φ w) (hd:∀ b g,Γ.nm b=some g→¬ Φ g)
  (hown:Γ.nm 0=some g∨g=w.heap.size) (hgl:g<w'.heap.size) (hoth:∀ k,k<w.heap.size→Γ.nm 0≠some k→w'.heap[k]? = w.heap[k]?) (hsz:w.heap.size≤w'.heap.size) (h1:w'.os=w.os) (h2:w'.tape=w.tape) (h3:w'.output=w.output)
  (hrow:w'.heap[g]? = some (.cells cur E (0,0))) (hE:Els Γ.St w' 1 l' Vs) (hl':l'≠[]) (hc:∀ q,q<Vs.length→cur[q]? = Vs[q]?) (hl:Vs.length≤cur.size) (hcap:l'.length≤cap) (hm:cap≤maxLen) (hcs:cur.size=cap) :
  CRes C I Γ [.arr z E 1 l,.arr v1 e1 s1 m] w Φ (.fl 0) [.arr z E 1 l',.arr v1 e1 s1 m] s (.slice (some ⟨g,0,none⟩) l'.length cap) w':=by
 have hblt:0<[Blk.arr z E 1 l,.arr v1 e1 s1 m].length:=by simp
 have hng:(Γ.re 0 (some g)).nm 0=some g:=by simp [Ctx.re]
 have hnf':¬ fixS C (shpOf [Blk.arr z E 1 l,.arr v1 e1 s1 m] 0):=by simp [shpOf,Blk.shp,fixS,hnf]
 have hk:([Blk.arr z E 1 l,.arr v1 e1 s1 m].map (Blk.kill 0)).set 0 (.arr z E 1 l')=[.arr z E 1 l',.arr v1 e1 s1 m]:=rfl
 have hgS:¬ Γ.St g:=by
  rcases hown with h | h
  ·exact (hH.lt 0 g h).2.2
  ·intro hs
   have:=hH.stlt g hs
   omega
 obtain ⟨q1,q2,q3⟩:=rebind (C:=C) (y:=.arr z E 1 l') (ng:=some g) (w':=w') hH hblt hnf' (fun k hk=>by
   simp only [Option.some.injEq] at hk;subst hk
   refine ⟨hgl,hgS,fun c hc hc2=>?_⟩
   rcases hown with h | h
   ·exact hc (hH.inj c 0 _ hc2 h)
   ·have:=(hH.lt c _ hc2).2.1
    omega)
  (fun k hk=>by
   simp only [Option.some.injEq] at hk;subst hk
   rcases hown with h | h
   ·exact .inl h
   ·exact .inr (by omega)) hoth hsz h1 h2 h3
  (BR.els hng hrow hE (by rintro ⟨_,h⟩;exact hl' h) hc hl) rfl
 rw [hk] at q1 q2
 refine ⟨_,Φ,q1.lift Φ,q2,?_,fun c hc=>?_,?_,fun b g' hb=>?_⟩
 ·refine .fl 0 g z E 1 l'.length cap rfl (fun _ h=>hl' (List.length_eq_zero_iff.1 h)) hng hcap hm ?_
  simp only [World.shape?,hrow,hcs,Nat.mul_one]
 ·simp only [PV.nms,List.mem_singleton] at hc
  subst hc
  simp
 ·refine hI.mono s Γ.St Φ w Γ.St w' hi (fun _ h=>h) (fun k hk hp=>(hI.foot _ _ _ _ hi k hp).2 hk) (fun k hk=>Nat.lt_of_lt_of_le (hH.stlt k hk) hsz) (fun k hk=>?_) hsz h1 h2 h3
  rcases hk with hk | hk
  ·exact hoth k (hH.stlt k hk) (fun h=>(hH.lt 0 k h).2.2 hk)
  ·exact hoth k (hI.foot _ _ _ _ hi k hk).1 (fun h=>hd 0 k h hk)
 ·simp only [Ctx.re] at hb
  split at hb
  ·simp only [Option.some.injEq] at hb
   subst hb
   rcases hown with h | h
   ·exact hd 0 _ h
   ·intro hp
    have:=(hI.foot _ _ _ _ hi _ hp).1
    omega
  ·exact hd b g' hb
theorem setCells_row {w:World} {g o e:Nat} {vs:List Value} {cur:Array Value} (hg:w.heap[g]? = some (.cells cur e (0,0))) (hle:o+vs.length≤cur.size) (h1:∀ v∈vs,v.oneCell'=true) :
  (w.setCells g o vs).heap[g]? = some (.cells (putAt cur.toList o vs).toArray e (0,0))∧(∀ k,k≠g→(w.setCells g o vs).heap[k]? = w.heap[k]?)∧(w.setCells g o vs).heap.size=w.heap.size∧(w.setCells g o vs).os=w.os∧(w.setCells g o vs).tape=w.tape∧(w.setCells g o vs).output=w.output:=by
 obtain ⟨w',r1,r2,r3,r4,r5,r6,r7,_⟩:=run_storeCells_put (P:=Tryz.prog) (o:=o) hg hle h1
 have hcell:∀ j,j<vs.length→∃ v,w.cell? ⟨g,o+0+j,none⟩=some v:=fun j hj=>by
  refine ⟨cur[o+j]'(by omega),?_⟩
  simp [World.cell?,hg,Array.getElem?_eq_getElem (show o+j<cur.size by omega)]
 have r:=run_storeCells_cells (P:=Tryz.prog) g o vs 0 w (fun j hj=>by obtain ⟨v,h⟩:=hcell j hj;rw [h];rfl) (fun j hj=>by simp [World.frozen?,hg]) h1
 rw [r] at r1
 simp only [Nat.add_zero,Result.ok.injEq,true_and] at r1
 rw [r1]
 exact ⟨r2,r3,r4,r5,r6,r7⟩
theorem insR_els {St:Nat→Prop} {w:World} {l:LL} {cs:List Value} {i:Nat} {n:Int} (h:Els St w 1 l cs) (hi:i≤l.length):Els St w 1 (insR l i n) (cs.take i++Value.int .i64 n::cs.drop i):=by
 have hlen:=h.1
 rw [Nat.mul_one] at hlen
 have h1:Els St w 1 (l.take i) (cs.take i):=by
  refine ⟨by rw [List.length_take,List.length_take,hlen,Nat.mul_one],fun j hj=>?_⟩
  rw [List.length_take] at hj
  rw [List.getElem_take]
  obtain ⟨a,b⟩:=h.2 j (by omega)
  refine ⟨a,fun k hk=>?_⟩
  obtain ⟨U,e,v⟩:=b k hk
  exact ⟨U,by rw [List.getElem?_take_of_lt (by omega)];exact e,v⟩
 have h2:Els St w 1 [[SV.int .i64 n]] [Value.int .i64 n]:=by
  refine ⟨rfl,fun j hj=>?_⟩
  have:j=0:=by simpa using hj
  subst this
  refine ⟨rfl,fun k hk=>?_⟩
  have:k=0:=by simpa using hk
  subst this
  exact ⟨_,rfl,.int _ _⟩
 have h3:Els St w 1 (l.drop i) (cs.drop i):=by
  refine ⟨by rw [List.length_drop,List.length_drop,hlen,Nat.mul_one],fun j hj=>?_⟩
  rw [List.length_drop] at hj
  rw [List.getElem_drop]
  obtain ⟨a,b⟩:=h.2 (i+j) (by omega)
  refine ⟨a,fun k hk=>?_⟩
  obtain ⟨U,e,v⟩:=b k hk
  exact ⟨U,by rw [List.getElem?_drop];rw [show i+(j*1+k)=(i+j)*1+k by omega];exact e,v⟩
 have:=(h1.append h2).append h3
 unfold insR
 simpa using this
theorem insR_len (l:LL) (i:Nat) (n:Int) (h:i≤l.length):(insR l i n).length=l.length+1:=by
 unfold insR
 rw [List.length_append,List.length_cons,List.length_take,List.length_drop]
 omega
theorem insR_ne (l:LL) (i:Nat) (n:Int):insR l i n≠[]:=by
 unfold insR
 simp
theorem y_sins:YFact Tryz.prog GX 197 X_sins:=by
 intro C hP hG σ I yh yv hI hy args H s ret Hc hpf Γ Φ w Vs hyv hH hg hi hd hc hn
 unfold X_sins at hpf
 split at hpf
 ·rename_i i z l nn
  obtain ⟨h0,hpf⟩:=tr_need hpf
  obtain ⟨h1,hpf⟩:=tr_need hpf
  obtain ⟨rfl,rfl⟩:=tr_ret hpf
  obtain ⟨i0,i1⟩:=ltN_iff.1 h0
  obtain ⟨i,rfl⟩:=Int.eq_ofNat_of_zero_le i0
  have hl:=Nat.le_of_ble_eq_true h1
  have hil:i≤l.length:=by
   have:(i:Int)<((l.length+1:Nat):Int):=i1
   omega
  obtain ⟨S,X0,V,rfl,hs,hx,hv⟩:=hc.arr3
  obtain rfl:=hx.inv_int
  have hnf:fixedT C 3=false:=by
   unfold fixedT Cfg.sh
   rw [hP]
   kernel_rfl
  obtain ⟨g1,cur1,n1,n2,n3,n4,n5⟩:=hH.arr' (b:=1) rfl (by simp)
  have hvs:∃ cap,V = .slice (some ⟨g1,0,none⟩) 1 cap:=by
   cases hv with
   | flv _ e sz h=>simp [shpOf,Blk.shp] at h
   | fl _ g v e sz n cap h hv' hg' hcap hm hs'=>
    rw [n1] at hg'
    simp only [Option.some.injEq] at hg'
    subst hg'
    simp only [shpOf,List.getElem?_cons_succ,List.getElem?_cons_zero,Option.map_some,Blk.shp,Option.some.injEq,Shp.arr.injEq] at h
    obtain ⟨_,_,_,h4⟩:=h
    subst h4
    exact ⟨cap,rfl⟩
  obtain ⟨cap1,rfl⟩:=hvs
  obtain ⟨V1,p1,p2⟩:=n5 0 (by simp) 0 (by simp)
  have p3:V1 = .int .i64 nn:=by cases p2;rfl
  subst p3
  have hvcell:∀ j v,[Value.int .i64 nn][j]? = some v→w.cell? ⟨g1,0+j,none⟩=some v:=by
   intro j v hj
   have:j=0:=by
    have:=(List.getElem?_eq_some_iff.1 hj).1
    simpa using this
   subst this
   simp only [List.getElem?_cons_zero,Option.some.injEq] at hj
   subst hj
   simpa [World.cell?,n2] using p1
  have hv1:∀ v∈[Value.int .i64 nn],v.oneCell'=true:=by simp [Value.oneCell']
  rw [Int.toNat_natCast]
  refine upon_of_calls (fn:=Tryz.f197) (by kernel_rfl) (by kernel_rfl) (by kernel_rfl) ?_
  have grownEnd:∀ (base:Option Addr) (c:Nat) (cs:List Value),l.length≤c→c<l.length+1→cs.length=l.length→(base=none→l.length=0)→(∀ a,base=some a→∀ j v,cs[j]? = some v→w.cell? (a.add j)=some v)→Els Γ.St w 1 l cs→
    Calls Tryz.prog 197 #[.slice base l.length c,.int .i64 (l.length:Int),.slice (some ⟨g1,0,none⟩) 1 cap1] w fun e w'=>∃ V,e = .returned V∧CRes C I Γ [.arr z 3 1 l,.arr false 3 1 [[SV.int .i64 nn]]] w Φ (.fl 0) [.arr z 3 1 (insR l l.length nn),.arr false 3 1 [[SV.int .i64 nn]]] s V w':=by
   intro base c cs a1 a2 a3 a4 a5 a6
   refine (Any2.slices_Insert_int_end_grow Tryz.lays2_21 base l.length c g1 0 1 cap1 cs [.int .i64 nn] w (by omega) a1 a2 (by omega) a3 rfl a4 a5 hvcell hv1).mono ?_
   rintro e w' ⟨rfl,rfl⟩
   refine ⟨_,rfl,?_⟩
   obtain ⟨hge,hle⟩:=grown_facts (w:=w) (need:=l.length+1) (cap:=c) (e:=3) (by omega)
   have hE:=insR_els (n:=nn) a6 (Nat.le_refl l.length)
   have hcsl:cs.take l.length++Value.int .i64 nn::cs.drop l.length=cs++[Value.int .i64 nn]:=by
    rw [List.take_of_length_le (by omega),List.drop_of_length_le (by omega)]
   rw [hcsl] at hE
   have hlen:=insR_len l l.length nn (Nat.le_refl _)
   obtain ⟨r1,r2⟩:=grown_row (olds:=cs) (Vs:=[Value.int .i64 nn]) (z:=(Value.int .i64 0).cells) (k:=grownCap w (l.length+1) c 3) (n:=l.length) (m:=1) (size:=1) rfl (by omega) rfl hge
   have hrowE:(cs.toArray++[Value.int .i64 nn].toArray)=(cs++[Value.int .i64 nn]).toArray:=by simp
   rw [hrowE] at r1 r2
   have key:∀ (row:Array Value) (kc:Nat),row.size=kc→(∀ q,q<(cs++[Value.int .i64 nn]).length→row[q]? = (cs++[Value.int .i64 nn])[q]?)→l.length+1≤kc→kc≤maxLen→
     CRes C I Γ [.arr z 3 1 l,.arr false 3 1 [[SV.int .i64 nn]]] w Φ (.fl 0) [.arr z 3 1 (insR l l.length nn),.arr false 3 1 [[SV.int .i64 nn]]] s (.slice (some ⟨w.heap.size,0,none⟩) (l.length+1) kc) (w.drew.alloc (.cells row 3)):=by
    intro row kc b1 b2 b3 b4
    have hwh:(w.drew.alloc (.cells row 3)).heap=w.heap.push (.cells row 3):=rfl
    have:=sins_res (C:=C) (w':=w.drew.alloc (.cells row 3)) (l':=insR l l.length nn) hI w.heap.size kc (cs++[Value.int .i64 nn]) row hnf hH hi hd (.inr rfl) (by rw [hwh];simp) (fun k hk _=>heap_push_lt hwh hk) (by rw [hwh];simp) rfl rfl rfl (heap_push_eq hwh) (hE.mono (fun g hg=>heap_push_lt hwh (hH.stlt g hg)) (fun _ h=>h)) (insR_ne _ _ _) b2 (by rw [b1,List.length_append,List.length_singleton];omega) (by rw [hlen];exact b3) b4 b1
    rw [hlen] at this
    exact this
   exact key _ _ (r1.trans (Nat.mul_one _)) r2 hge hle
  have two:∀ (row:Array Value) (cs:List Value),cs.length=l.length→i<l.length→l.length+1≤row.size→(∀ q,q<i→row[q]? = cs[q]?)→
    ∀ q,q<(cs.take i++Value.int .i64 nn::cs.drop i).length→(putAt (putAt row.toList i [Value.int .i64 nn]) (i+1) (cs.drop i)).toArray[q]? = (cs.take i++Value.int .i64 nn::cs.drop i)[q]?:=by
   intro row cs a1 a2 a3 a4 q hq
   have hq':q<l.length+1:=by
    rw [List.length_append,List.length_cons,List.length_take,List.length_drop] at hq
    omega
   have ht:(cs.take i).length=i:=by rw [List.length_take];omega
   have hrl:row.toList.length=row.size:=Array.length_toList
   simp only [List.getElem?_toArray]
   rw [putAt_get _ _ _ (by rw [putAt_length,List.length_drop,hrl];omega),putAt_get _ _ _ (by rw [List.length_singleton,hrl];omega)]
   by_cases h1:q<i
   ·rw [if_neg (by omega),if_neg (by omega),List.getElem?_append_left (by omega),List.getElem?_take_of_lt h1]
    simpa using a4 q h1
   ·by_cases h2:q=i
    ·subst h2
     rw [if_neg (by omega),if_pos (by rw [List.length_singleton];omega),List.getElem?_append_right (by omega),ht,Nat.sub_self]
     rfl
    ·rw [if_pos (by rw [List.length_drop];omega),List.getElem?_append_right (by omega),ht,show q-i=(q-(i+1))+1 by omega,List.getElem?_cons_succ]
  have grownMid:∀ (g c:Nat) (cs:List Value),i<l.length→l.length≤c→c<l.length+1→cs.length=l.length→(∀ j v,cs[j]? = some v→w.cell? ⟨g,0+j,none⟩=some v)→(∀ v∈cs,v.oneCell'=true)→Els Γ.St w 1 l cs→
    Calls Tryz.prog 197 #[.slice (some ⟨g,0,none⟩) l.length c,.int .i64 (i:Int),.slice (some ⟨g1,0,none⟩) 1 cap1] w fun e w'=>∃ V,e = .returned V∧CRes C I Γ [.arr z 3 1 l,.arr false 3 1 [[SV.int .i64 nn]]] w Φ (.fl 0) [.arr z 3 1 (insR l i nn),.arr false 3 1 [[SV.int .i64 nn]]] s V w':=by
   intro g c cs hi' a1 a2 a3 a4 a5 a6
   refine (Any2.slices_Insert_int_grow Tryz.lays2_21 g 0 l.length c i g1 0 1 cap1 cs [.int .i64 nn] w hi' (by omega) a1 a2 (by omega) a3 rfl a4 hvcell a5 hv1).mono ?_
   rintro e w' ⟨rfl,rfl⟩
   refine ⟨_,rfl,?_⟩
   obtain ⟨hge,hle⟩:=grown_facts (w:=w) (need:=l.length+1) (cap:=c) (e:=3) (by omega)
   have hE:=insR_els (n:=nn) a6 hil
   have hlen:=insR_len l i nn hil
   have key:∀ (row:Array Value) (kc:Nat),row.size=kc→(∀ q,q<i→row[q]? = cs[q]?)→l.length+1≤kc→kc≤maxLen→
     CRes C I Γ [.arr z 3 1 l,.arr false 3 1 [[SV.int .i64 nn]]] w Φ (.fl 0) [.arr z 3 1 (insR l i nn),.arr false 3 1 [[SV.int .i64 nn]]] s (.slice (some ⟨w.heap.size,0,none⟩) (l.length+1) kc) (((w.alloc (.cells row 3)).drew.setCells w.heap.size i [Value.int .i64 nn]).drew.setCells w.heap.size (i+1) (cs.drop i)):=by
    intro row kc b1 b2 b3 b4
    have hwh:(w.alloc (.cells row 3)).drew.heap=w.heap.push (.cells row 3):=rfl
    obtain ⟨c1,c2,c3,c4,c5,c6⟩:=setCells_row (w:=(w.alloc (.cells row 3)).drew) (o:=i) (vs:=[Value.int .i64 nn]) (heap_push_eq hwh) (by rw [List.length_singleton];omega) hv1
    generalize hw1:(w.alloc (.cells row 3)).drew.setCells w.heap.size i [Value.int .i64 nn]=w1 at *
    have hs1:(putAt row.toList i [Value.int .i64 nn]).toArray.size=kc:=by rw [List.size_toArray,putAt_length];simpa using b1
    obtain ⟨d1,d2,d3,d4,d5,d6⟩:=setCells_row (w:=w1.drew) (o:=i+1) (vs:=cs.drop i) c1 (by rw [hs1,List.length_drop];omega) (fun v hv=>a5 v (List.mem_of_mem_drop hv))
    have hoth:∀ k,k<w.heap.size→(w1.drew.setCells w.heap.size (i+1) (cs.drop i)).heap[k]? = w.heap[k]?:=fun k hk=>by
     rw [d2 k (by omega)]
     exact (c2 k (by omega)).trans (heap_push_lt hwh hk)
    have hsz:(w1.drew.setCells w.heap.size (i+1) (cs.drop i)).heap.size=w.heap.size+1:=by
     rw [d3]
     show w1.heap.size=_
     rw [c3,hwh]
     simp
    have:=sins_res (C:=C) (w':=w1.drew.setCells w.heap.size (i+1) (cs.drop i)) (l':=insR l i nn) hI w.heap.size kc (cs.take i++Value.int .i64 nn::cs.drop i) _ hnf hH hi hd (.inr rfl) (by rw [hsz];omega) (fun k hk _=>hoth k hk) (by rw [hsz];omega) (d4.trans c4) (d5.trans c5) (d6.trans c6) d1 (hE.mono (fun g hg=>hoth g (hH.stlt g hg)) (fun _ h=>h)) (insR_ne _ _ _) (two row cs a3 hi' (by omega) b2) (by rw [List.size_toArray,putAt_length,List.length_append,List.length_cons,List.length_take,List.length_drop];simp only [List.size_toArray,putAt_length] at hs1 ⊢;omega) (by rw [hlen];exact b3) b4 (by rw [List.size_toArray,putAt_length];simpa using hs1)
    rw [hlen] at this
    exact this
   have hz1:(Value.int .i64 0).cells.size=1:=rfl
   have ht:(cs.take i).length=i:=by rw [List.length_take];omega
   refine key _ _ ?_ (fun q hq=>?_) hge hle
   ·simp only [Array.size_append,List.size_toArray,size_zeroCells,hz1,Nat.mul_one,ht]
    have:l.length+1≤grownCap w (l.length+1) c 3:=hge
    show i+(l.length+1-i)+(grownCap w (l.length+1) c 3-(l.length+1))=grownCap w (l.length+1) c 3
    omega
   ·rw [Array.getElem?_append_left (by simp only [Array.size_append,List.size_toArray,ht];omega),Array.getElem?_append_left (by simp only [List.size_toArray,ht];omega),List.getElem?_toArray,List.getElem?_take_of_lt hq]
  have two':∀ (row:Array Value) (cs:List Value),cs.length=l.length→i<l.length→l.length+1≤row.size→(∀ q,q<i→row[q]? = cs[q]?)→
    ∀ q,q<(cs.take i++Value.int .i64 nn::cs.drop i).length→(putAt (putAt row.toList (i+1) (cs.drop i)) i [Value.int .i64 nn]).toArray[q]? = (cs.take i++Value.int .i64 nn::cs.drop i)[q]?:=by
   intro row cs a1 a2 a3 a4 q hq
   have hq':q<l.length+1:=by
    rw [List.length_append,List.length_cons,List.length_take,List.length_drop] at hq
    omega
   have ht:(cs.take i).length=i:=by rw [List.length_take];omega
   have hrl:row.toList.length=row.size:=Array.length_toList
   simp only [List.getElem?_toArray]
   rw [putAt_get _ _ _ (by rw [putAt_length,List.length_singleton,hrl];omega),putAt_get _ _ _ (by rw [List.length_drop,hrl];omega)]
   by_cases h1:q<i
   ·rw [if_neg (by omega),if_neg (by omega),List.getElem?_append_left (by omega),List.getElem?_take_of_lt h1]
    simpa using a4 q h1
   ·by_cases h2:q=i
    ·subst h2
     rw [if_pos (by rw [List.length_singleton];omega),List.getElem?_append_right (by omega),ht,Nat.sub_self]
     rfl
    ·rw [if_neg (by rw [List.length_singleton];omega),if_pos (by rw [List.length_drop];omega),List.getElem?_append_right (by omega),ht,show q-i=(q-(i+1))+1 by omega,List.getElem?_cons_succ]
  cases hs with
  | flv _ e2 sz2 h'=>
   simp only [shpOf,List.getElem?_cons_zero,Option.map_some,Blk.shp,Option.some.injEq,Shp.arr.injEq] at h'
   obtain ⟨q1,q2,q3,h4⟩:=h'
   obtain rfl:=List.length_eq_zero_iff.1 h4
   obtain rfl:i=0:=by simpa using hil
   exact grownEnd none 0 [] (by simp) (by simp) rfl (fun _=>rfl) (fun a h=>by cases h) ⟨rfl,fun j hj=>by simp at hj⟩
  | fl _ g z' e2 sz2 n' cap h' hv' hg' hcap hm hs'=>
   simp only [shpOf,List.getElem?_cons_zero,Option.map_some,Blk.shp,Option.some.injEq,Shp.arr.injEq] at h'
   obtain ⟨rfl,rfl,rfl,rfl⟩:=h'
   have hne:¬ (z=true∧l=[]):=by rintro ⟨q1,q2⟩;exact hv' q1 (by rw [q2];rfl)
   obtain ⟨g',cur,hg2,hh,hsize,hlens,hels⟩:=hH.arr' (b:=0) rfl hne
   obtain rfl:g=g':=by
    rw [hg'] at hg2
    exact Option.some.inj hg2
   have hcs:cur.size=cap:=by
    have:=hs'
    simp only [World.shape?,hh,Option.some.injEq,Prod.mk.injEq,true_and,Nat.mul_one] at this
    exact this
   rw [Nat.mul_one] at hsize
   have hO:Els Γ.St w 1 l (cur.toList.take l.length):=by
    refine ⟨by rw [List.length_take,Array.length_toList (xs:=cur)];omega,fun j hj=>⟨hlens j hj,fun k hk=>?_⟩⟩
    obtain ⟨U,e1,u⟩:=hels j hj k hk
    refine ⟨U,?_,u⟩
    have hk':k<1:=by rw [←hlens j hj];exact hk
    rw [List.getElem?_take,if_pos (by omega)]
    simpa using e1
   have hol:(cur.toList.take l.length).length=l.length:=by rw [List.length_take,Array.length_toList (xs:=cur)];omega
   have hcell:∀ j v,(cur.toList.take l.length)[j]? = some v→w.cell? ⟨g,0+j,none⟩=some v:=by
    intro j v hj
    have hj':j<l.length:=by
     have:=(List.getElem?_eq_some_iff.1 hj).1
     omega
    rw [List.getElem?_take,if_pos hj'] at hj
    simpa [World.cell?,hh] using hj
   have h1c:∀ v∈cur.toList.take l.length,v.oneCell'=true:=by
    intro v hv
    obtain ⟨j,hj,rfl⟩:=List.getElem_of_mem hv
    have hj':j<l.length:=by omega
    obtain ⟨_,u⟩:=hO.2 j hj'
    obtain ⟨U,e1,u2⟩:=u 0 (by rw [hlens j hj'];exact Nat.one_pos)
    rw [Nat.mul_one,Nat.add_zero,List.getElem?_eq_getElem hj] at e1
    cases e1
    exact u2.oneCell
   have hlen:=insR_len l i nn hil
   have hE:=insR_els (n:=nn) hO hil
   have hsome:∀ j,j<cap→(w.cell? ⟨g,j,none⟩).isSome=true:=by
    intro j hj
    simp only [World.cell?,hh]
    rw [Array.getElem?_eq_getElem (by omega)]
    rfl
   have hfrz:∀ j,w.frozen? ⟨g,j,none⟩=false:=fun j=>by simp [World.frozen?,hh]
   have hng1:g1≠g:=fun e=>by
    have:=hH.inj 1 0 g (by rw [←e];exact n1) hg'
    omega
   have hmx:cap≤9223372036854775807:=by
    simp only [maxLen] at hm
    omega
   by_cases hroom:l.length+1≤cap
   ·have key:∀ (w':World) (row:List Value),w'.heap[g]? = some (.cells row.toArray 3 (0,0))→(∀ k,k≠g→w'.heap[k]? = w.heap[k]?)→w'.heap.size=w.heap.size→w'.os=w.os→w'.tape=w.tape→w'.output=w.output→row.length=cap→
      (∀ q,q<((cur.toList.take l.length).take i++Value.int .i64 nn::(cur.toList.take l.length).drop i).length→row.toArray[q]? = ((cur.toList.take l.length).take i++Value.int .i64 nn::(cur.toList.take l.length).drop i)[q]?)→
      CRes C I Γ [.arr z 3 1 l,.arr false 3 1 [[SV.int .i64 nn]]] w Φ (.fl 0) [.arr z 3 1 (insR l i nn),.arr false 3 1 [[SV.int .i64 nn]]] s (.slice (some ⟨g,0,none⟩) (l.length+1) cap) w':=by
     intro w' row k1 k2 k3 k4 k5 k6 k7 k8
     have hgS:¬ Γ.St g:=(hH.lt 0 g hg').2.2
     have:=sins_res (C:=C) (w':=w') (l':=insR l i nn) hI g cap ((cur.toList.take l.length).take i++Value.int .i64 nn::(cur.toList.take l.length).drop i) row.toArray hnf hH hi hd (.inl hg') (by rw [k3];exact (hH.lt 0 g hg').2.1) (fun k hk hk2=>k2 k (fun e=>hk2 (e ▸ hg'))) (by omega) k4 k5 k6 k1
      (hE.mono (fun k hk=>k2 k (fun e=>hgS (e ▸ hk))) (fun _ h=>h)) (insR_ne _ _ _) k8
      (by rw [List.size_toArray,k7,List.length_append,List.length_cons,List.length_take,List.length_drop,hol];omega) (by rw [hlen];exact hroom) hm (by rw [List.size_toArray,k7])
     rw [hlen] at this
     exact this
    by_cases hie:i=l.length
    ·subst hie
     refine (Any2.slices_Insert_int_end_room Tryz.lays2_21 g 0 l.length cap g1 0 1 cap1 [.int .i64 nn] w (by omega) hroom hmx rfl (fun j hj=>hsome _ (by omega)) (fun j hj=>hfrz _) hvcell hv1).mono ?_
     rintro e w' ⟨rfl,rfl⟩
     refine ⟨_,rfl,?_⟩
     obtain ⟨c1,c2,c3,c4,c5,c6⟩:=setCells_row (w:=w) (o:=0+l.length) (vs:=[Value.int .i64 nn]) hh (by rw [List.length_singleton];omega) hv1
     refine key _ _ c1 c2 c3 c4 c5 c6 (by rw [putAt_length];simpa using hcs) (fun q hq=>?_)
     rw [List.take_of_length_le (by omega),List.drop_of_length_le (by omega)] at hq ⊢
     rw [List.length_append,hol,List.length_singleton] at hq
     simp only [List.getElem?_toArray]
     rw [putAt_get _ _ _ (by rw [List.length_singleton,Array.length_toList (xs:=cur)];omega)]
     by_cases hq2:q<l.length
     ·rw [if_neg (by omega),List.getElem?_append_left (by omega),List.getElem?_take,if_pos hq2]
     ·obtain rfl:q=l.length:=by omega
      rw [if_pos (by rw [List.length_singleton];omega),List.getElem?_append_right (by omega),hol]
      simp
    ·have hi':i<l.length:=by omega
     refine (Any2.slices_Insert_int_shift Tryz.lays2_21 g 0 l.length cap i g1 0 1 cap1 (cur.toList.take l.length) [.int .i64 nn] w hi' (by omega) hroom hmx hng1 hol rfl hcell (fun j hj=>hsome _ (by omega)) (fun j hj=>hfrz _) hvcell h1c hv1 3 3 cur1.size cur.size (by simp [World.shape?,n2]) (by simp [World.shape?,hh]) (by omega) (by simp [World.frozen?,n2]) (by simp [World.frozen?,n2])).mono ?_
     rintro e w' ⟨rfl,rfl⟩
     refine ⟨_,rfl,?_⟩
     obtain ⟨c1,c2,c3,c4,c5,c6⟩:=setCells_row (w:=w.drew) (o:=0+(i+1)) (vs:=(cur.toList.take l.length).drop i) hh (by rw [List.length_drop,hol];omega) (fun v hv=>h1c v (List.mem_of_mem_drop hv))
     generalize hw1:w.drew.setCells g (0+(i+1)) ((cur.toList.take l.length).drop i)=w1 at *
     have hs1:(putAt cur.toList (0+(i+1)) ((cur.toList.take l.length).drop i)).toArray.size=cap:=by rw [List.size_toArray,putAt_length];simpa using hcs
     obtain ⟨d1,d2,d3,d4,d5,d6⟩:=setCells_row (w:=w1) (o:=0+i) (vs:=[Value.int .i64 nn]) c1 (by rw [hs1,List.length_singleton];omega) hv1
     refine key _ _ d1 (fun k hk=>(d2 k hk).trans (c2 k hk)) (d3.trans c3) (d4.trans c4) (d5.trans c5) (d6.trans c6) (by rw [putAt_length];simpa using hs1) ?_
     rw [Nat.zero_add,Nat.zero_add]
     exact two' cur _ hol hi' (by omega) (fun q hq=>by rw [List.getElem?_take,if_pos (by omega)];simp)
   ·by_cases hie:i=l.length
    ·subst hie
     exact grownEnd (some ⟨g,0,none⟩) cap (cur.toList.take l.length) hcap (by omega) hol (fun h=>by cases h) (fun a h j v hj=>by
      obtain rfl:=Option.some.inj h
      rw [addr_add]
      exact hcell j v hj) hO
    ·exact grownMid g cap _ (by omega) hcap (by omega) hol hcell h1c hO
 ·cases hpf
end Go.Proofs.YtokehocipgepnaaGreatDoor.E
namespace Go.Proofs.YtokehocipgepnaaGreatDoor.E
open Go Go.Proofs 
set_option linter.unusedVariables false
set_option maxRecDepth 100000
section
theorem y_dstep:YFact Tryz.prog GX 182 X_dstep:=by
 refine yfact_of_run (C₀:=c_dstep LF) (xok_of (lx:=[(141,X_padapt),(139,X_ppoint)]) (ly:=[(196,X_dnum),(197,X_sins)]) (ls:=[]) rfl rfl rfl ⟨x_padapt,x_ppoint,trivial⟩ ⟨y_dnum,y_sins,trivial⟩ trivial) (okFns_of rfl (by kernel_rfl)) follows ?_
 intro args H ret Hc h
 unfold X_dstep at h
 split at h
 ·rename_i rest n i b st z l
  obtain ⟨h0,h⟩:=tr_need h
  obtain ⟨h1,h⟩:=tr_need h
  obtain ⟨h2,h⟩:=tr_need h
  obtain ⟨h3,h⟩:=tr_need h
  obtain ⟨h4,h⟩:=tr_need h
  obtain ⟨rfl,rfl⟩:=tr_ret h
  refine ⟨rfl,rfl,fun σ yh s=>?_⟩
  have e:=(dstep_ev LF yh s 0 rest n i b st z l).trans (dstep_spec rest n i b st z l h0 h1 h2 h3 h4)
  exact ⟨1,_,e,rfl⟩
 ·cases h
theorem x_pdec:XFact Tryz.prog GX 155 X_pdec:=by
 refine XFact.fix (pf:=X_pdec0) _ (xfact_of_stab [1,0] (C₀:=c_pdec LF) (xok_of (lx:=[(127,X_lastb)]) (ly:=[(182,X_dstep)]) (ls:=[]) rfl rfl rfl ⟨x_lastb,trivial⟩ ⟨y_dstep,trivial⟩ trivial) (okFns_of rfl (by kernel_rfl)) follows ?_)
 intro args ret Hc h
 unfold X_pdec0 at h
 split at h
 ·rename_i s
  obtain ⟨h0,h⟩:=tr_need h
  obtain ⟨rfl,rfl⟩:=tr_ret h
  obtain ⟨r,H,e,hs⟩:=pdec_sp s h0
  exact ⟨rfl,rfl,rfl,1,r,H,(pdec_ev LF noY () 0 s).trans e,hs⟩
 ·cases h
end
end Go.Proofs.YtokehocipgepnaaGreatDoor.E
namespace Go.Proofs.YtokehocipgepnaaGreatDoor.E
open Go Go.Proofs Go.Sort
set_option linter.unusedVariables false
set_option linter.unusedSimpArgs false
set_option maxRecDepth 100000
theorem x_uvalid:XFact Tryz.prog GX 95 X_uvalid:=by
 refine XFact.fix (pf:=X_uvalid0) _ (xfact_of_calls (fn:=Tryz.f95) (by kernel_rfl) (by kernel_rfl) (by kernel_rfl) ?_)
 intro args ret Hc h
 unfold X_uvalid0 at h
 split at h
 ·rename_i s
  obtain ⟨h0,h⟩:=tr_need h
  obtain ⟨rfl,rfl⟩:=tr_ret h
  refine ⟨rfl,rfl,fun C hP hCG Γ w Vs hG hlt hc=>?_⟩
  obtain ⟨U,rfl,hu⟩:=hc.arr1
  obtain ⟨s',rfl,rfl⟩:=hu.inv_str
  have hs:=maxL h0
  refine (Any.utf8_ValidString Tryz.lays196 s' w (by simp at hs;omega) (gk_utf8 hG hCG)).mono ?_
  rintro e w' ⟨rfl,hb⟩
  rw [←validD_pts]
  exact ⟨_,rfl,hb,VP.mk_bool _⟩
 ·cases h
theorem x_ucount:XFact Tryz.prog GX 96 X_ucount:=by
 refine XFact.fix (pf:=X_ucount0) _ (xfact_of_calls (fn:=Tryz.f96) (by kernel_rfl) (by kernel_rfl) (by kernel_rfl) ?_)
 intro args ret Hc h
 unfold X_ucount0 at h
 split at h
 ·rename_i s
  obtain ⟨h0,h⟩:=tr_need h
  obtain ⟨rfl,rfl⟩:=tr_ret h
  refine ⟨rfl,rfl,fun C hP hCG Γ w Vs hG hlt hc=>?_⟩
  obtain ⟨U,rfl,hu⟩:=hc.arr1
  obtain ⟨s',rfl,rfl⟩:=hu.inv_str
  have hs:=maxL h0
  refine (Any.utf8_RuneCountInString Tryz.lays195 s' w (by simp at hs;omega)).mono ?_
  rintro e w' ⟨rfl,pos,rfl⟩
  rw [Lib.runeCountL_eq]
  exact ⟨_,rfl,below_iter _ _ _,VP.mk_int _ _⟩
 ·cases h
theorem x_drune:XFact Tryz.prog GX 153 X_drune:=fun args ret Hc h=>by
 have:trRes (X_drune args)=none:=by unfold X_drune X_drune0;split<;>rfl
 rw [this] at h;cases h
theorem z_sseqf:SFact Tryz.prog GX 152 X_sseqf:=by
 refine sfact_of_ev (C₀:=c_sseqf LF) ((XFacts.ok (l:=[(153,X_drune),(116,X_sidx)]) rfl ⟨x_drune,x_sidx,trivial⟩)) (okFns_of rfl (by kernel_rfl)) follows ?_
 intro args H L h σ yh s s' hr
 unfold X_sseqf at h
 split at h
 ·rename_i p t n
  simp only [Option.some.injEq,Prod.mk.injEq] at h
  obtain ⟨h1,rfl⟩:=h
  obtain ⟨t',f⟩:=sseqf_spec (R:=PV × List Blk × σ) yh p t n s s' h1 hr
  exact ⟨1,_,(sseqf_ev LF yh 0 p t n s).trans (f _)⟩
 ·cases h
end Go.Proofs.YtokehocipgepnaaGreatDoor.E
namespace Go.Proofs.YtokehocipgepnaaGreatDoor.E
open Go Go.Proofs 
set_option linter.unusedVariables false
set_option maxRecDepth 100000
section
theorem x_lprop:XFact Tryz.prog GX 114 X_lprop:=by
 refine XFact.fix (pf:=X_lprop0) _ (xfact_of_stab [] (C₀:=c_lprop LF) (XFacts.ok (l:=[(155,X_pdec),(98,X_penc)]) rfl ⟨x_pdec,x_penc,trivial⟩) (okFns_of rfl (by kernel_rfl)) follows ?_)
 intro args ret Hc h
 unfold X_lprop0 at h
 split at h
 ·rename_i s
  obtain ⟨h0,h⟩:=tr_need h
  obtain ⟨rfl,rfl⟩:=tr_ret h
  have e:=(lprop_ev LF noY () 0 s).trans (lprop_spec s h0)
  exact ⟨rfl,rfl,rfl,1,_,_,e,rfl⟩
 ·cases h
theorem x_lval:XFact Tryz.prog GX 61 X_lval:=by
 refine XFact.fix (pf:=X_lval0) _ (xfact_of_stab [] (C₀:=c_lval LF) (XFacts.ok (l:=[(113,X_cpre),(114,X_lprop)]) rfl ⟨x_cpre,x_lprop,trivial⟩) (okFns_of rfl (by kernel_rfl)) follows ?_)
 intro args ret Hc h
 unfold X_lval0 at h
 split at h
 ·rename_i s
  obtain ⟨h0,h⟩:=tr_need h
  obtain ⟨rfl,rfl⟩:=tr_ret h
  have e:=(lval_ev LF noY () 0 s).trans (lval_spec s h0)
  exact ⟨rfl,rfl,rfl,1,_,_,e,rfl⟩
 ·cases h
theorem x_lasc:XFact Tryz.prog GX 51 X_lasc:=by
 refine XFact.fix (pf:=X_lasc0) _ (xfact_of_stab [0,0] (C₀:=c_lasc LF) (XFacts.ok (l:=[(95,X_uvalid),(96,X_ucount),(97,X_lowc),(98,X_penc),(61,X_lval)]) rfl ⟨x_uvalid,x_ucount,x_lowc,x_penc,x_lval,trivial⟩) (okFns_of rfl (by kernel_rfl)) follows ?_)
 intro args ret Hc h
 unfold X_lasc0 at h
 split at h
 ·rename_i s
  obtain ⟨h0,h⟩:=tr_need h
  obtain ⟨rfl,rfl⟩:=tr_ret h
  obtain ⟨r,H,e,hs⟩:=lasc_sp s h0
  exact ⟨rfl,rfl,rfl,1,r,H,(lasc_ev LF noY () 0 s).trans e,hs⟩
 ·cases h
theorem x_hdig:XFact Tryz.prog GX 88 X_hdig:=by
 refine XFact.fix (pf:=X_hdig0) _ (xfact_of_stab [] (C₀:=c_hdig LF) (XFacts.ok (l:=[]) rfl trivial) (okFns_of rfl (by kernel_rfl)) follows ?_)
 intro args ret Hc h
 unfold X_hdig0 at h
 split at h
 ·rename_i b
  obtain ⟨h0,h⟩:=tr_need h
  obtain ⟨rfl,rfl⟩:=tr_ret h
  have e:=(hdig_ev LF noY () 0 b).trans (hdig_spec b h0)
  exact ⟨rfl,rfl,rfl,1,_,_,e,rfl⟩
 ·cases h
theorem x_hdec:XFact Tryz.prog GX 46 X_hdec:=by
 refine XFact.fix (pf:=X_hdec0) _ (xfact_of_stab [0,0] (C₀:=c_hdec LF) (XFacts.ok (l:=[(88,X_hdig)]) rfl ⟨x_hdig,trivial⟩) (okFns_of rfl (by kernel_rfl)) follows ?_)
 intro args ret Hc h
 unfold X_hdec0 at h
 split at h
 ·rename_i s
  obtain ⟨h0,h⟩:=tr_need h
  obtain ⟨rfl,rfl⟩:=tr_ret h
  obtain ⟨r,H,e,hs⟩:=hdec_sp s h0
  exact ⟨rfl,rfl,rfl,1,r,H,(hdec_ev LF noY () 0 s).trans e,hs⟩
 ·cases h
theorem x_haddr:XFact Tryz.prog GX 45 X_haddr:=by
 refine XFact.fix (pf:=X_haddr0) _ (xfact_of_stab [0,0] (C₀:=c_haddr LF) (XFacts.ok (l:=[(87,X_v6p)]) rfl ⟨x_v6p,trivial⟩) (okFns_of rfl (by kernel_rfl)) follows ?_)
 intro args ret Hc h
 unfold X_haddr0 at h
 split at h
 ·rename_i s
  obtain ⟨h0,h⟩:=tr_need h
  obtain ⟨h1,h⟩:=tr_need h
  obtain ⟨rfl,rfl⟩:=tr_ret h
  obtain ⟨r,H,e,hs⟩:=haddr_sp s h0 h1
  exact ⟨rfl,rfl,rfl,1,r,H,(haddr_ev LF noY () 0 s).trans e,hs⟩
 ·cases h
theorem x_hparse:XFact Tryz.prog GX 21 X_hparse:=by
 refine XFact.fix (pf:=X_hparse0) _ (xfact_of_stab [0,0] (C₀:=c_hparse LF) (XFacts.ok (l:=[(44,X_hpre),(45,X_haddr),(46,X_hdec),(47,X_tsufc),(48,X_numeric),(49,X_pnum),(50,X_ssplitM),(51,X_lasc),(52,X_sjoin)]) rfl ⟨x_hpre,x_haddr,x_hdec,x_tsufc,x_numeric,x_pnum,x_ssplitM,x_lasc,x_sjoin,trivial⟩) (okFns_of rfl (by kernel_rfl)) follows ?_)
 intro args ret Hc h
 unfold X_hparse0 at h
 split at h
 ·rename_i s
  obtain ⟨h0,h⟩:=tr_need h
  obtain ⟨rfl,rfl⟩:=tr_ret h
  obtain ⟨r,H,e,hs⟩:=hparse_sp s h0
  exact ⟨rfl,rfl,rfl,1,r,H,(hparse_ev LF noY () 0 s).trans e,hs⟩
 ·cases h
theorem x_lsseq:XFact Tryz.prog GX 112 X_lsseq:=by
 refine XFact.fix (pf:=X_lsseq0) _ (xfact_of_run (C₀:=c_lsseq LF) (XFacts.ok (l:=[]) rfl trivial) (okFns_of rfl (by kernel_rfl)) follows ?_)
 intro args ret Hc h
 unfold X_lsseq0 at h
 split at h
 ·rename_i t p n
  obtain ⟨rfl,rfl⟩:=tr_ret h
  have e:=(lsseq_ev LF noY () 0 t p n).trans (lsseq_spec t p n )
  exact ⟨rfl,1,_,[],e,rfl,rfl⟩
 ·cases h
theorem x_sseq:XFact Tryz.prog GX 60 X_sseq:=by
 refine XFact.fix (pf:=X_sseq0) _ (xfact_of_run (C₀:=c_sseq LF) (XFacts.ok (l:=[(112,X_lsseq)]) rfl ⟨x_lsseq,trivial⟩) (okFns_of rfl (by kernel_rfl)) follows ?_)
 intro args ret Hc h
 unfold X_sseq0 at h
 split at h
 ·rename_i t p
  obtain ⟨rfl,rfl⟩:=tr_ret h
  have e:=(sseq_ev LF noY () 0 t p).trans (sseq_spec t p )
  exact ⟨rfl,1,_,[],e,rfl,rfl⟩
 ·cases h
theorem x_hvn:XFact Tryz.prog GX 25 X_hvn:=by
 refine XFact.fix (pf:=X_hvn0) _ (xfact_of_stab [] (C₀:=c_hvn LF) (xok_of (lx:=[(48,X_numeric),(60,X_sseq),(61,X_lval)]) (ly:=[]) (ls:=[(152,X_sseqf)]) rfl rfl rfl ⟨x_numeric,x_sseq,x_lval,trivial⟩ trivial ⟨z_sseqf,trivial⟩) (okFns_of rfl (by kernel_rfl)) follows ?_)
 intro args ret Hc h
 unfold X_hvn0 at h
 split at h
 ·rename_i s
  obtain ⟨h0,h⟩:=tr_need h
  obtain ⟨rfl,rfl⟩:=tr_ret h
  obtain ⟨r,H,e,hs⟩:=hvn_sp s h0
  exact ⟨rfl,rfl,rfl,1,r,H,(hvn_ev LF noY () 0 s).trans e,hs⟩
 ·cases h
theorem x_hlab:XFact Tryz.prog GX 26 X_hlab:=by
 refine XFact.fix (pf:=X_hlab0) _ (xfact_of_stab [] (C₀:=c_hlab LF) (XFacts.ok (l:=[(25,X_hvn),(62,X_scnt)]) rfl ⟨x_hvn,x_scnt,trivial⟩) (okFns_of rfl (by kernel_rfl)) follows ?_)
 intro args ret Hc h
 unfold X_hlab0 at h
 split at h
 ·rename_i s
  obtain ⟨h0,h⟩:=tr_need h
  obtain ⟨rfl,rfl⟩:=tr_ret h
  have e:=(hlab_ev LF noY () 0 s).trans (hlab_spec s h0)
  exact ⟨rfl,rfl,rfl,1,_,_,e,rfl⟩
 ·cases h
theorem x_hcov:XFact Tryz.prog GX 31 X_hcov:=by
 refine XFact.fix (pf:=X_hcov0) _ (xfact_of_stab [] (C₀:=c_hcov LF) (XFacts.ok (l:=[(25,X_hvn),(63,X_hsuf)]) rfl ⟨x_hvn,x_hsuf,trivial⟩) (okFns_of rfl (by kernel_rfl)) follows ?_)
 intro args ret Hc h
 unfold X_hcov0 at h
 split at h
 ·rename_i p s
  obtain ⟨h0,h⟩:=tr_need h
  obtain ⟨h1,h⟩:=tr_need h
  obtain ⟨rfl,rfl⟩:=tr_ret h
  have e:=(hcov_ev LF noY () 0 p s).trans (hcov_spec p s h0 h1)
  exact ⟨rfl,rfl,rfl,1,_,_,e,rfl⟩
 ·cases h
end
end Go.Proofs.YtokehocipgepnaaGreatDoor.E
namespace Go.Proofs.YtokehocipgepnaaGreatDoor.E
open Go Go.Proofs Go.Sort
set_option linter.unusedVariables false
set_option linter.unusedSimpArgs false
set_option maxRecDepth 100000
theorem kmod_spec {R:Type} {k0:Int→Option R} (n m:Int) (h0:ltI 0 m=true) (h1:ltN m 1000000000=true):kmod LF n m k0=k0 (Int.emod n m):=by
 have hm:=ltI_iff.1 h0
 have hm2:=(ltN_iff.1 h1).2
 unfold kmod
 rw [show (m != (0:Int))=true by rw [bne_iff_ne];omega,cond_true]
 have q1:=Int.tmod_lt_of_pos n hm
 have q2:=Int.lt_tmod_of_pos n hm
 have q3:=Int.tmod_add_mul_tdiv n m
 by_cases h:Int.tmod n m<0
 ·rw [ltI_t h,cond_true]
  simp only [vl]
  rw [wi64_id (by omega) (by omega)]
  congr 1
  have q4:Int.tmod n m+m+m*(n.tdiv m-1)=n:=by rw [Int.mul_sub];omega
  exact ((Int.ediv_emod_unique (a:=n) (q:=n.tdiv m-1) hm).2 ⟨q4,by omega,by omega⟩).2.symm
 ·rw [ltI_f (by omega),cond_false]
  congr 1
  exact ((Int.ediv_emod_unique (a:=n) (q:=n.tdiv m) hm).2 ⟨q3,by omega,by omega⟩).2.symm
end Go.Proofs.YtokehocipgepnaaGreatDoor.E
namespace Go.Proofs.YtokehocipgepnaaGreatDoor.E
open Go Go.Proofs 
set_option linter.unusedVariables false
set_option maxRecDepth 100000
section
variable {σ R : Type} (lf : Nat) (cl : CallT) (yh : Yh σ) (s : σ) (k : Out → St σ → Option R)
noncomputable def c_awake (lf:Nat):Cfg:=mkCfg lf [20] (lookK []) [(21,X_hparse),(26,X_hlab),(31,X_hcov)] (lookK [(4,[0]),(3,[1,0,0,0,1]),(2,[1,0,0,0]),(1,[1,0]),(0,[])]) [26,31] (lookK []) (some [0]) [] [] []
end
end Go.Proofs.YtokehocipgepnaaGreatDoor.E
namespace Go.Proofs.YtokehocipgepnaaGreatDoor.E
open Go Go.Proofs 
set_option linter.unusedVariables false
set_option maxRecDepth 100000
section
theorem x_kmod:XFact Tryz.prog GX 24 X_kmod:=by
 refine XFact.fix (pf:=X_kmod0) _ (xfact_of_stab [] (C₀:=c_kmod LF) (XFacts.ok (l:=[]) rfl trivial) (okFns_of rfl (by kernel_rfl)) follows ?_)
 intro args ret Hc h
 unfold X_kmod0 at h
 split at h
 ·rename_i n m
  obtain ⟨h0,h⟩:=tr_need h
  obtain ⟨h1,h⟩:=tr_need h
  obtain ⟨rfl,rfl⟩:=tr_ret h
  have e:=(kmod_ev LF noY () 0 n m).trans (kmod_spec n m h0 h1)
  exact ⟨rfl,rfl,rfl,1,_,_,e,rfl⟩
 ·cases h
theorem awake_run:resTrue (evC (c_awake LF) 1 Unit noY 20 [] [] ())=true:=by kernel_rfl
theorem x_awake:XFact Tryz.prog GX 20 X_awake:=
 XFact.fix (pf:=X_awake0) _ (by
  have h:=xfact_true (C₀:=c_awake LF) (XFacts.ok (l:=[(21,X_hparse),(26,X_hlab),(31,X_hcov)]) rfl ⟨x_hparse,x_hlab,x_hcov,trivial⟩) (okFns_of rfl (by kernel_rfl)) follows awake_run
  have e:(fun args:List PV=>match args with | []=>Tr.ret (.s (.bool true)) [] | _=>.fail)=X_awake0:=by
   funext args
   cases args<;>rfl
  rw [←e]
  exact h)
end
end Go.Proofs.YtokehocipgepnaaGreatDoor.E
namespace Go.Proofs.YtokehocipgepnaaGreatDoor.E
open Go Go.Proofs 
set_option linter.unusedVariables false
set_option maxRecDepth 100000
section
variable {σ R : Type} (lf : Nat) (cl : CallT) (yh : Yh σ) (s : σ) (k : Out → St σ → Option R)
noncomputable def c_rpoint (lf:Nat):Cfg:=mkCfg lf [147] (lookK []) [] (lookK [(1,[2]),(0,[0])]) [] (lookK []) (some [2]) [] [] []
noncomputable def rpoint {R:Type} (lf:Nat) (n0:Int) (k0:Bool→Option R):Option R:=cond (not (ltI n0 (0:Int))) (cond (not (ltI (1114111:Int) n0)) (cond (ltI n0 (55296:Int)) (k0 true) (k0 (ltI (57343:Int) n0))) (k0 false)) (k0 false)
theorem rpoint_ev (d:Nat) (n0:Int):evC (c_rpoint lf) (d+1) σ yh 147 [.s (.int .i64 n0)] [] s=rpoint lf n0 (fun r0=>some (.s (.bool r0),[],s)):=by
 refine (evC_eq (fn:=Tryz.f147) (by kernel_rfl) (by kernel_rfl) (by kernel_rfl)).trans ?_
 generalize evC (c_rpoint lf) d=cl
 unfold rpoint;kernel_rfl
noncomputable abbrev b_radapt:Code:=bodyOf Tryz.f150
noncomputable def c_radapt (lf:Nat):Cfg:=mkCfg lf [150] (lookK [(6,[0,5,0])]) [] (lookK [(9,[6]),(8,[0,6]),(7,[0,6]),(6,[0,6,11]),(5,[0,6]),(4,[0]),(2,[0,0]),(3,[0,0]),(1,[0,0,6]),(0,[0,0,0])]) [] (lookK [(0,[0,6]),(1,[0,6])]) (some [6]) [] [] []
noncomputable def radapt_l0f {R:Type} (lf n:Nat) (self:Int→Int→Option R) (delta0 kk1:Int) (k0:Int→Int→Option R):Option R:=cond (ltI (455:Int) delta0) (vl (wi64 (Int.tdiv delta0 (35:Int))) fun n'6=>vl (wi64 (kk1+(36:Int))) fun n'7=>self n'6 n'7) (k0 delta0 kk1)
noncomputable def radapt_l0 {R:Type} (lf n:Nat) (delta0 kk1:Int) (k0:Int→Int→Option R):Option R:=recN (α:=Int→Int→Option R) (fun _ _=>none) (fun n self delta0 kk1=>radapt_l0f lf n self delta0 kk1 k0) n delta0 kk1
theorem radapt_l0_s {R:Type} (lf n:Nat) (delta0 kk1:Int) (k0:Int→Int→Option R):radapt_l0 lf (n+1) delta0 kk1 k0=radapt_l0f lf n (fun delta0 kk1=>radapt_l0 lf n delta0 kk1 k0) delta0 kk1 k0:=rfl
theorem radapt_l0_eq (n:Nat) (delta0 kk1:Int):loopK 0 ((c_radapt lf).keep 6) (bd (c_radapt lf) cl yh (cd [1,1,1,1,0,0,0] b_radapt)) n ⟨gp [(0,.s (.int .i64 delta0)),(6,.s (.int .i64 kk1))] 23,[],s⟩ k =
 radapt_l0 lf n delta0 kk1 (fun delta0 kk1=>k (.exit 0) ⟨gp [(0,.s (.int .i64 delta0)),(6,.s (.int .i64 kk1))] 23,[],s⟩):=by
 induction n generalizing delta0 kk1 with
 | zero=>rfl
 | succ n ih=>rw [radapt_l0_s];unfold radapt_l0f;exact (Eq.trans (by kernel_rfl) (cond_congr (vl_congr fun n'6=>(vl_congr fun n'7=>(ih n'6 n'7))) rfl))
noncomputable def radapt_j0 {R:Type} (lf:Nat) (delta0 n1:Int) (k0:Int→Option R):Option R:=cond (n1 != (0:Int)) (vl (wi64 (Int.tdiv delta0 n1)) fun n'5=>radapt_l0 lf lf (wi64 (delta0+n'5)) 0 (fun delta'8 kk'9=>vl (wi64 ((36:Int)*delta'8)) fun n'10=>vl (wi64 (delta'8+(38:Int))) fun n'11=>cond (n'11 != (0:Int)) (vl (wi64 (Int.tdiv n'10 n'11)) fun n'12=>k0 (wi64 (kk'9+n'12))) (none))) (none)
abbrev radapt_j0_P (b:Code):Prop:=∀ (k:Out→St σ→Option R) (delta0 n1:Int),evCode (c_radapt lf) cl yh b ⟨gp [(0,.s (.int .i64 delta0)),(0,.s (.int .i64 n1))] 29,[],s⟩ k=radapt_j0 lf delta0 n1 (fun n0=>k .ret ⟨gp [(6,.s (.int .i64 n0))] 24,[],s⟩)
theorem radapt_j0_eq:radapt_j0_P (R:=R) lf cl yh s (cd [1,1] b_radapt):=by
 intro k delta0 n1;unfold radapt_j0;exact (Eq.trans (by kernel_rfl) (cond_congr (vl_congr fun n'5=>((radapt_l0_eq lf cl yh s (blkK 0 (seqK (c_radapt lf) cl yh (cd [1,1,1,1,1] b_radapt) k)) lf (wi64 (delta0+n'5)) 0).trans (congr rfl (funext fun delta'8=>(funext fun kk'9=>(by kernel_rfl)))))) rfl))
noncomputable def radapt {R:Type} (lf:Nat) (delta0 n1:Int) (first2:Bool) (k0:Int→Option R):Option R:=cond first2 (vl (wi64 (Int.tdiv delta0 (700:Int))) fun n'2=>radapt_j0 lf n'2 n1 (fun n'13=>k0 n'13)) (vl (wi64 (Int.tdiv delta0 (2:Int))) fun n'3=>radapt_j0 lf n'3 n1 (fun n'14=>k0 n'14))
theorem radapt_eq (b_11:Code) (h_radapt_j0:radapt_j0_P (R:=PV × List Blk × σ) lf cl yh s b_11) (delta0 n1:Int) (first2:Bool):evCode (c_radapt lf) cl yh (cd [] (putC [1,1] b_11 b_radapt)) ⟨[.s (.int .i64 delta0),.s (.int .i64 n1),.s (.bool first2)]++tps 28,[],s⟩ (retK (c_radapt lf) Tryz.f150)=radapt lf delta0 n1 first2 (fun r0=>some (.s (.int .i64 r0),[],s)):=by
 unfold radapt;exact (Eq.trans (by kernel_rfl) (cond_congr (vl_congr fun n'2=>((h_radapt_j0 (retK (c_radapt lf) Tryz.f150) n'2 n1).trans (congr rfl (funext fun n'13=>(by kernel_rfl))))) (vl_congr fun n'3=>((h_radapt_j0 (retK (c_radapt lf) Tryz.f150) n'3 n1).trans (congr rfl (funext fun n'14=>(by kernel_rfl)))))))
theorem radapt_ev (d:Nat) (delta0 n1:Int) (first2:Bool):evC (c_radapt lf) (d+1) σ yh 150 [.s (.int .i64 delta0),.s (.int .i64 n1),.s (.bool first2)] [] s=radapt lf delta0 n1 first2 (fun r0=>some (.s (.int .i64 r0),[],s)):=
 (evC_eq (fn:=Tryz.f150) (by kernel_rfl) (by kernel_rfl) (by kernel_rfl)).trans (Eq.trans (by kernel_rfl) (radapt_eq lf (evC (c_radapt lf) d) yh s (cd [1,1] b_radapt) (radapt_j0_eq lf (evC (c_radapt lf) d) yh s) delta0 n1 first2))
noncomputable def c_rthr (lf:Nat):Cfg:=mkCfg lf [148] (lookK []) [] (lookK [(1,[4]),(0,[0,0])]) [] (lookK []) (some [4]) [] [] []
noncomputable def rthr {R:Type} (lf:Nat) (kk0 bias1:Int) (k0:Int→Option R):Option R:=vl (wi64 ((36:Int)*(wi64 (kk0+(1:Int))))) fun n'0=>vl (if ((if ((wi64 (n'0-bias1))<(26:Int)) then (wi64 (n'0-bias1)) else (26:Int)) > (1:Int)) then (if ((wi64 (n'0-bias1))<(26:Int)) then (wi64 (n'0-bias1)) else (26:Int)) else (1:Int)) fun n'1=>k0 n'1
theorem rthr_ev (d:Nat) (kk0 bias1:Int):evC (c_rthr lf) (d+1) σ yh 148 [.s (.int .i64 kk0),.s (.int .i64 bias1)] [] s=rthr lf kk0 bias1 (fun r0=>some (.s (.int .i64 r0),[],s)):=by
 refine (evC_eq (fn:=Tryz.f148) (by kernel_rfl) (by kernel_rfl) (by kernel_rfl)).trans ?_
 generalize evC (c_rthr lf) d=cl
 unfold rthr;kernel_rfl
noncomputable def c_rdg36 (lf:Nat):Cfg:=mkCfg lf [149] (lookK []) [] (lookK [(3,[2]),(2,[2]),(1,[0,3]),(0,[0])]) [] (lookK []) (some [2]) [] [] []
noncomputable def rdg36 {R:Type} (lf:Nat) (d0:Int) (k0:Int→Option R):Option R:=cond (ltI d0 (26:Int)) (vl (wu8 (wi64 ((97:Int)+d0))) fun n'0=>k0 n'0) (vl (wi64 ((wi64 ((48:Int)+d0))-(26:Int))) fun n'1=>k0 (wu8 n'1))
theorem rdg36_ev (d:Nat) (d0:Int):evC (c_rdg36 lf) (d+1) σ yh 149 [.s (.int .i64 d0)] [] s=rdg36 lf d0 (fun r0=>some (.s (.int .u8 r0),[],s)):=by
 refine (evC_eq (fn:=Tryz.f149) (by kernel_rfl) (by kernel_rfl) (by kernel_rfl)).trans ?_
 generalize evC (c_rdg36 lf) d=cl
 unfold rdg36;kernel_rfl
noncomputable abbrev b_rval:Code:=bodyOf Tryz.f180
noncomputable def c_rval (lf:Nat):Cfg:=mkCfg lf [180] (lookK []) [] (lookK [(7,[2]),(2,[2]),(4,[2]),(6,[2]),(5,[0,22]),(3,[0,12]),(1,[0,2]),(0,[0])]) [] (lookK [(0,[])]) (some [2]) [] [] []
noncomputable def rval_j0 {R:Type} (b0:Int) (b1:Bool) (k0:Int→Option R) (k1:Int→Bool→Option R):Option R:=cond b1 (vl (wi64 (wu8 (b0-(65:Int)))) fun n'1=>k0 n'1) (cond (not (ltI b0 (48:Int))) (cond (not (ltI (57:Int) b0)) (vl (wi64 (wu8 (b0-(48:Int)))) fun n'2=>vl (wi64 (n'2+(26:Int))) fun n'3=>k0 n'3) (k1 b0 (not (ltI (57:Int) b0)))) (k1 b0 false))
abbrev rval_j0_P (b:Code):Prop:=∀ (k:Out→St σ→Option R) (b0:Int) (b1:Bool),evCode (c_rval lf) cl yh b ⟨gp [(0,.s (.int .u8 b0)),(12,.s (.bool b1))] 20,[],s⟩ k=rval_j0 b0 b1 (fun n0=>k .ret ⟨gp [(2,.s (.int .i64 n0))] 31,[],s⟩) (fun b0 b1=>k .normal ⟨gp [(0,.s (.int .u8 b0)),(22,.s (.bool b1))] 10,[],s⟩)
theorem rval_j0_eq:rval_j0_P (R:=R) lf cl yh s (cd [1,0,0,1,1,1] b_rval):=by
 intro k b0 b1;unfold rval_j0;kernel_rfl
noncomputable def rval_j1 {R:Type} (b0:Int) (b1:Bool) (k0:Int→Option R) (k1:Int→Bool→Option R):Option R:=cond b1 (vl (wi64 (wu8 (b0-(97:Int)))) fun n'0=>k0 n'0) (cond (not (ltI b0 (65:Int))) (rval_j0 b0 (not (ltI (90:Int) b0)) (fun n'4=>k0 n'4) (fun b'5 b'6=>k1 b'5 b'6)) (rval_j0 b0 false (fun n'7=>k0 n'7) (fun b'8 b'9=>k1 b'8 b'9)))
abbrev rval_j1_P (b:Code):Prop:=∀ (k:Out→St σ→Option R) (b0:Int) (b1:Bool),evCode (c_rval lf) cl yh b ⟨gp [(0,.s (.int .u8 b0)),(2,.s (.bool b1))] 30,[],s⟩ k=rval_j1 b0 b1 (fun n0=>k .ret ⟨gp [(2,.s (.int .i64 n0))] 31,[],s⟩) (fun b0 b1=>k .normal ⟨gp [(0,.s (.int .u8 b0)),(22,.s (.bool b1))] 10,[],s⟩)
theorem rval_j1_eq (b_100111:Code) (h_rval_j0:rval_j0_P (R:=R) lf cl yh s b_100111):rval_j1_P (R:=R) lf cl yh s (cd [1,0,0,1] (putC [1,0,0,1,1,1] b_100111 b_rval)):=by
 intro k b0 b1;unfold rval_j1;exact (Eq.trans (by kernel_rfl) (cond_congr (vl_congr fun n'0=>rfl) (cond_congr ((h_rval_j0 k b0 (not (ltI (90:Int) b0))).trans (congr (congr rfl (funext fun n'4=>(by kernel_rfl))) (funext fun b'5=>(funext fun b'6=>(by kernel_rfl))))) ((h_rval_j0 k b0 false).trans (congr (congr rfl (funext fun n'7=>(by kernel_rfl))) (funext fun b'8=>(funext fun b'9=>(by kernel_rfl))))))))
theorem rval_j1_fu:rval_j1_P (R:=R) lf cl yh s (cd [1,0,0,1] b_rval):=by
 intro k b0 b1;exact Eq.trans (by kernel_rfl) (rval_j1_eq lf cl yh s (cd [1,0,0,1,1,1] b_rval) (rval_j0_eq lf cl yh s) k b0 b1)
noncomputable def rval {R:Type} (lf:Nat) (b0:Int) (k0:Int→Option R):Option R:=cond (not (ltI b0 (97:Int))) (rval_j1 b0 (not (ltI (122:Int) b0)) (fun n'10=>k0 n'10) (fun b'11 b'12=>k0 (-1))) (rval_j1 b0 false (fun n'13=>k0 n'13) (fun b'14 b'15=>k0 (-1)))
theorem rval_eq (b_1001:Code) (h_rval_j1:rval_j1_P (R:=PV × List Blk × σ) lf cl yh s b_1001) (b0:Int):evCode (c_rval lf) cl yh (cd [] (putC [1,0,0,1] b_1001 b_rval)) ⟨[.s (.int .u8 b0)]++tps 33,[],s⟩ (retK (c_rval lf) Tryz.f180)=rval lf b0 (fun r0=>some (.s (.int .i64 r0),[],s)):=by
 unfold rval;exact (Eq.trans (by kernel_rfl) (cond_congr ((h_rval_j1 (blkK 0 (seqK (c_rval lf) cl yh (cd [1,1] b_rval) (retK (c_rval lf) Tryz.f180))) b0 (not (ltI (122:Int) b0))).trans (congr (congr rfl (funext fun n'10=>(by kernel_rfl))) (funext fun b'11=>(funext fun b'12=>(by kernel_rfl))))) ((h_rval_j1 (blkK 0 (seqK (c_rval lf) cl yh (cd [1,1] b_rval) (retK (c_rval lf) Tryz.f180))) b0 false).trans (congr (congr rfl (funext fun n'13=>(by kernel_rfl))) (funext fun b'14=>(funext fun b'15=>(by kernel_rfl)))))))
theorem rval_ev (d:Nat) (b0:Int):evC (c_rval lf) (d+1) σ yh 180 [.s (.int .u8 b0)] [] s=rval lf b0 (fun r0=>some (.s (.int .i64 r0),[],s)):=
 (evC_eq (fn:=Tryz.f180) (by kernel_rfl) (by kernel_rfl) (by kernel_rfl)).trans (Eq.trans (by kernel_rfl) (rval_eq lf (evC (c_rval lf) d) yh s (cd [1,0,0,1] b_rval) (rval_j1_fu lf (evC (c_rval lf) d) yh s) b0))
noncomputable abbrev b_renc:Code:=bodyOf Tryz.f110
noncomputable def c_renc (lf:Nat):Cfg:=mkCfg lf [110] (lookK [(32,[0,1,0,0,1,0,0,0,0,2,0,0]),(25,[0,1,0,0,1,0,0,0,0,2]),(18,[0,1,0,0,1,0,0,0,0,0,0]),(15,[0,1,0,0,1,0,0,0,0]),(5,[0,1,0,0,0])]) [(147,X_rpoint),(148,X_rthr),(149,X_rdg36),(150,X_radapt)] (lookK [(43,[2,0]),(42,[0,3,1,0,0,0,0]),(41,[0,3,1,0,0,0,0]),(26,[0,3,1,0,0,0,0,2]),(40,[0,3,1,0,0,0,0,2]),(39,[0,3,1,0,0,0,0,2]),(38,[0,3,1,0,0,1,2]),(37,[0,3,1,0,0,0,3]),(36,[0,3,1,0,0,0,0,2,0,0]),(35,[0,3,1,0,0,0,0,2,0,0]),(34,[0,3,1,0,0,0,0,2,0,0,0]),(33,[0,3,1,0,0,0,0,2,0,0,0]),(32,[0,3,1,0,0,0,0,2,0,0,94]),(31,[0,3,1,0,0,0,0,2,0,0]),(30,[0,3,1,0,0,0,0,2,0]),(29,[0,3,1,0,0,0,0,2,90]),(28,[0,3,1,0,0,0,0,2]),(27,[0,3,1,0,0,0,0,2,82]),(25,[0,3,1,0,0,0,0,2,74]),(24,[0,3,1,0,0,0,0,2]),(23,[0,3,1,0,0,0,0]),(22,[0,3,1,0,1,0,0]),(19,[0,3,1,0,0,0,0,0,0]),(21,[0,3,1,0,0,0,0,0,0]),(20,[0,3,1,0,0,0,0,0,0,56]),(18,[0,3,1,0,0,0,0,0,0,48]),(17,[0,3,1,0,0,0,0,0,0]),(16,[0,3,1,0,0,0,0,0]),(15,[0,3,1,0,0,0,0,46]),(14,[0,3,1,0,0,0,0]),(13,[0,3,1,0]),(12,[0,3,1,0,42]),(11,[0,3,1,0]),(6,[0,3,0]),(10,[0,3,0]),(9,[0,3,0,30]),(8,[2,0]),(7,[0,3,0,25]),(5,[0,3,0,17]),(4,[0,3,0]),(3,[0,3]),(2,[2,0]),(1,[0,18]),(0,[0])]) [147,148,149,150] (lookK [(2,[4]),(3,[0,3,1,0,0,0,0]),(6,[0,3,1,0,0,0,0]),(7,[0,3,1,0,0,0,0,2]),(8,[0,3,1,0,0,0,3,0]),(9,[0,3,1,0,0,0,0,2,0,0]),(4,[0,3,1,0,0,0,0,0]),(5,[0,3,1,0,0,0,0,0,0]),(0,[0,3]),(1,[0,3,0])]) (some [2,0]) [] [] []
noncomputable def renc_l0f {R:Type} (lf n:Nat) (self:Bool→Bool→LL→Int→LL→Option R) (points_z0 points_t1:Bool) (points2:LL) (i3:Int) (l4:LL) (k0:LL→Option R) (k1:Bool→Bool→LL→LL→Option R):Option R:=cond (ltI i3 (↑(List.length points2):Int)) (cond (inR i3 (List.length points2)) (cond (okE tI64 points2 (Int.toNat i3) 0) (vl (gE points2 (Int.toNat i3) 0) fun n'1=>cond (not (ptI n'1)) (k0 l4) (cond (inR i3 (List.length points2)) (cond (okE tI64 points2 (Int.toNat i3) 0) (vl (gE points2 (Int.toNat i3) 0) fun n'3=>cond (ltI n'3 (128:Int)) (cond (inR i3 (List.length points2)) (cond (okE tI64 points2 (Int.toNat i3) 0) (vl (gE points2 (Int.toNat i3) 0) fun n'4=>cond (roomy ((List.length l4)+1)) (self points_z0 points_t1 points2 (wi64 (i3+(1:Int))) (l4++[[(SV.int .u8 (wu8 n'4))]])) (none)) (none)) (none)) (self points_z0 points_t1 points2 (wi64 (i3+(1:Int))) l4)) (none)) (none))) (none)) (none)) (k1 points_z0 points_t1 points2 l4)
noncomputable def renc_l0 {R:Type} (lf n:Nat) (points_z0 points_t1:Bool) (points2:LL) (i3:Int) (l4:LL) (k0:LL→Option R) (k1:Bool→Bool→LL→LL→Option R):Option R:=recN (α:=Bool→Bool→LL→Int→LL→Option R) (fun _ _ _ _ _=>none) (fun n self points_z0 points_t1 points2 i3 l4=>renc_l0f lf n self points_z0 points_t1 points2 i3 l4 k0 k1) n points_z0 points_t1 points2 i3 l4
theorem renc_l0_s {R:Type} (lf n:Nat) (points_z0 points_t1:Bool) (points2:LL) (i3:Int) (l4:LL) (k0:LL→Option R) (k1:Bool→Bool→LL→LL→Option R):renc_l0 lf (n+1) points_z0 points_t1 points2 i3 l4 k0 k1=renc_l0f lf n (fun points_z0 points_t1 points2 i3 l4=>renc_l0 lf n points_z0 points_t1 points2 i3 l4 k0 k1) points_z0 points_t1 points2 i3 l4 k0 k1:=rfl
theorem renc_l0_eq (n:Nat) (points_z0 points_t1:Bool) (points2:LL) (i3:Int) (l4:LL):loopK 1 ((c_renc lf).keep 5) (bd (c_renc lf) cl yh (cd [1,1,1,0,1,0,0] b_renc)) n ⟨gp [(0,.s (.sl points_z0 points_t1 1 points2)),(3,.fl 0),(0,.s (.int .i64 i3))] 148,[.arr true 5 1 l4],s⟩ k =
 renc_l0 lf n points_z0 points_t1 points2 i3 l4 (fun l0=>k .ret ⟨gp [(2,.s (.str ([]:List UInt8))),(0,.s (.int .i64 (2:Int)))] 150,[.arr true 5 1 l0],s⟩) (fun points_z0 points_t1 points2 l3=>k (.exit 0) ⟨gp [(0,.s (.sl points_z0 points_t1 1 points2)),(3,.fl 0)] 149,[.arr true 5 1 l3],s⟩):=by
 induction n generalizing points_z0 points_t1 points2 i3 l4 with
 | zero=>rfl
 | succ n ih=>rw [renc_l0_s];unfold renc_l0f;exact (Eq.trans (by kernel_rfl) (cond_congr (cond_congr (cond_congr (vl_congr fun n'1=>(cond_congr rfl (cond_congr (cond_congr (vl_congr fun n'3=>(cond_congr (cond_congr (cond_congr (vl_congr fun n'4=>(cond_congr (ih points_z0 points_t1 points2 (wi64 (i3+(1:Int))) (l4++[[(SV.int .u8 (wu8 n'4))]])) rfl)) rfl) rfl) (ih points_z0 points_t1 points2 (wi64 (i3+(1:Int))) l4))) rfl) rfl))) rfl) rfl) rfl))
noncomputable def renc_l1f {R:Type} (lf n:Nat) (self:Bool→Bool→LL→Int→Int→Int→Int→Int→Int→Int→LL→Option R) (points_z0 points_t1:Bool) (points2:LL) (done3 basic4 n5 delta6 bias7 least8 i9:Int) (l10:LL) (k0:Bool→Bool→LL→Int→Int→Int→Int→Int→Int→LL→Option R):Option R:=cond (ltI i9 (↑(List.length points2):Int)) (cond (inR i9 (List.length points2)) (cond (okE tI64 points2 (Int.toNat i9) 0) (vl (gE points2 (Int.toNat i9) 0) fun n'14=>cond (not (ltI n'14 n5)) (cond (inR i9 (List.length points2)) (cond (okE tI64 points2 (Int.toNat i9) 0) (vl (gE points2 (Int.toNat i9) 0) fun n'15=>vl (if (n'15<least8) then n'15 else least8) fun n'16=>self points_z0 points_t1 points2 done3 basic4 n5 delta6 bias7 n'16 (wi64 (i9+(1:Int))) l10) (none)) (none)) (self points_z0 points_t1 points2 done3 basic4 n5 delta6 bias7 least8 (wi64 (i9+(1:Int))) l10)) (none)) (none)) (k0 points_z0 points_t1 points2 done3 basic4 n5 delta6 bias7 least8 l10)
noncomputable def renc_l1 {R:Type} (lf n:Nat) (points_z0 points_t1:Bool) (points2:LL) (done3 basic4 n5 delta6 bias7 least8 i9:Int) (l10:LL) (k0:Bool→Bool→LL→Int→Int→Int→Int→Int→Int→LL→Option R):Option R:=recN (α:=Bool→Bool→LL→Int→Int→Int→Int→Int→Int→Int→LL→Option R) (fun _ _ _ _ _ _ _ _ _ _ _=>none) (fun n self points_z0 points_t1 points2 done3 basic4 n5 delta6 bias7 least8 i9 l10=>renc_l1f lf n self points_z0 points_t1 points2 done3 basic4 n5 delta6 bias7 least8 i9 l10 k0) n points_z0 points_t1 points2 done3 basic4 n5 delta6 bias7 least8 i9 l10
theorem renc_l1_s {R:Type} (lf n:Nat) (points_z0 points_t1:Bool) (points2:LL) (done3 basic4 n5 delta6 bias7 least8 i9:Int) (l10:LL) (k0:Bool→Bool→LL→Int→Int→Int→Int→Int→Int→LL→Option R):renc_l1 lf (n+1) points_z0 points_t1 points2 done3 basic4 n5 delta6 bias7 least8 i9 l10 k0=renc_l1f lf n (fun points_z0 points_t1 points2 done3 basic4 n5 delta6 bias7 least8 i9 l10=>renc_l1 lf n points_z0 points_t1 points2 done3 basic4 n5 delta6 bias7 least8 i9 l10 k0) points_z0 points_t1 points2 done3 basic4 n5 delta6 bias7 least8 i9 l10 k0:=rfl
theorem renc_l1_eq (n:Nat) (points_z0 points_t1:Bool) (points2:LL) (done3 basic4 n5 delta6 bias7 least8 i9:Int) (l10:LL):loopK 1 ((c_renc lf).keep 18) (bd (c_renc lf) cl yh (cd [1,1,1,1,1,1,1,0,0,0,1,0,1,0,1,0,0] b_renc)) n ⟨gp [(0,.s (.sl points_z0 points_t1 1 points2)),(3,.fl 0),(1,.s (.int .i64 done3)),(0,.s (.int .i64 basic4)),(0,.s (.int .i64 n5)),(0,.s (.int .i64 delta6)),(0,.s (.int .i64 bias7)),(0,.s (.int .i64 least8)),(0,.s (.int .i64 i9))] 141,[.arr true 5 1 l10],s⟩ k =
 renc_l1 lf n points_z0 points_t1 points2 done3 basic4 n5 delta6 bias7 least8 i9 l10 (fun points_z0 points_t1 points2 done3 basic4 n5 delta6 bias7 least8 l9=>k (.exit 4) ⟨gp [(0,.s (.sl points_z0 points_t1 1 points2)),(3,.fl 0),(1,.s (.int .i64 done3)),(0,.s (.int .i64 basic4)),(0,.s (.int .i64 n5)),(0,.s (.int .i64 delta6)),(0,.s (.int .i64 bias7)),(0,.s (.int .i64 least8))] 142,[.arr true 5 1 l9],s⟩):=by
 induction n generalizing points_z0 points_t1 points2 done3 basic4 n5 delta6 bias7 least8 i9 l10 with
 | zero=>rfl
 | succ n ih=>rw [renc_l1_s];unfold renc_l1f;exact (Eq.trans (by kernel_rfl) (cond_congr (cond_congr (cond_congr (vl_congr fun n'14=>(cond_congr (cond_congr (cond_congr (vl_congr fun n'15=>(vl_congr fun n'16=>(ih points_z0 points_t1 points2 done3 basic4 n5 delta6 bias7 n'16 (wi64 (i9+(1:Int))) l10))) rfl) rfl) (ih points_z0 points_t1 points2 done3 basic4 n5 delta6 bias7 least8 (wi64 (i9+(1:Int))) l10))) rfl) rfl) rfl))
noncomputable def renc_l2f {R:Type} (lf n:Nat) (self:Bool→Bool→LL→Int→Int→Int→Int→Int→Int→Int→Int→LL→Option R) (points_z0 points_t1:Bool) (points2:LL) (done3 basic4 n5 delta6 bias7 i8 q9 kk10:Int) (l11:LL) (k0:Bool→Bool→LL→Int→Int→Int→Int→Int→Int→LL→Option R):Option R:=cond (ltN kk10 10000000000) (cond (ltN bias7 1000000) (vl (thrI (Int.mul (36:Int) kk10) bias7) fun n'40=>cond (not (ltI q9 n'40)) (cond (ltN kk10 10000000000) (cond (ltN bias7 1000000) (vl (thrI (Int.mul (36:Int) kk10) bias7) fun n'42=>vl (wi64 ((36:Int)-n'42)) fun n'46=>cond (n'46 != (0:Int)) (vl (Int.tmod (wi64 (q9-n'42)) n'46) fun n'47=>cond (ltN (wi64 (n'42+n'47)) 36) (vl (↑(UInt8.toNat (dig36 (Int.toNat (wi64 (n'42+n'47))))):Int) fun n'48=>cond (roomy ((List.length l11)+1)) (vl (wi64 ((36:Int)-n'42)) fun n'49=>cond (n'49 != (0:Int)) (vl (wi64 (Int.tdiv (wi64 (q9-n'42)) n'49)) fun n'50=>vl (wi64 (kk10+(1:Int))) fun n'51=>self points_z0 points_t1 points2 done3 basic4 n5 delta6 bias7 i8 n'50 n'51 (l11++[[(SV.int .u8 n'48)]])) (none)) (none)) (none)) (none)) (none)) (none)) (k0 points_z0 points_t1 points2 done3 basic4 n5 delta6 i8 q9 l11)) (none)) (none)
noncomputable def renc_l2 {R:Type} (lf n:Nat) (points_z0 points_t1:Bool) (points2:LL) (done3 basic4 n5 delta6 bias7 i8 q9 kk10:Int) (l11:LL) (k0:Bool→Bool→LL→Int→Int→Int→Int→Int→Int→LL→Option R):Option R:=recN (α:=Bool→Bool→LL→Int→Int→Int→Int→Int→Int→Int→Int→LL→Option R) (fun _ _ _ _ _ _ _ _ _ _ _ _=>none) (fun n self points_z0 points_t1 points2 done3 basic4 n5 delta6 bias7 i8 q9 kk10 l11=>renc_l2f lf n self points_z0 points_t1 points2 done3 basic4 n5 delta6 bias7 i8 q9 kk10 l11 k0) n points_z0 points_t1 points2 done3 basic4 n5 delta6 bias7 i8 q9 kk10 l11
theorem renc_l2_s {R:Type} (lf n:Nat) (points_z0 points_t1:Bool) (points2:LL) (done3 basic4 n5 delta6 bias7 i8 q9 kk10:Int) (l11:LL) (k0:Bool→Bool→LL→Int→Int→Int→Int→Int→Int→LL→Option R):renc_l2 lf (n+1) points_z0 points_t1 points2 done3 basic4 n5 delta6 bias7 i8 q9 kk10 l11 k0=renc_l2f lf n (fun points_z0 points_t1 points2 done3 basic4 n5 delta6 bias7 i8 q9 kk10 l11=>renc_l2 lf n points_z0 points_t1 points2 done3 basic4 n5 delta6 bias7 i8 q9 kk10 l11 k0) points_z0 points_t1 points2 done3 basic4 n5 delta6 bias7 i8 q9 kk10 l11 k0:=rfl
theorem renc_l2_eq (n:Nat) (points_z0 points_t1:Bool) (points2:LL) (done3 basic4 n5 delta6 bias7 i8 q9 kk10:Int) (l11:LL):loopK 1 ((c_renc lf).keep 32) (bd (c_renc lf) cl yh (cd [1,1,1,1,1,1,1,0,0,0,1,0,1,1,1,1,0,1,0,0,1,0,0,1,1,1,1,0,0,0] b_renc)) n ⟨gp [(0,.s (.sl points_z0 points_t1 1 points2)),(3,.fl 0),(1,.s (.int .i64 done3)),(0,.s (.int .i64 basic4)),(0,.s (.int .i64 n5)),(0,.s (.int .i64 delta6)),(0,.s (.int .i64 bias7)),(2,.s (.int .i64 i8)),(0,.s (.int .i64 q9)),(0,.s (.int .i64 kk10))] 138,[.arr true 5 1 l11],s⟩ k =
 renc_l2 lf n points_z0 points_t1 points2 done3 basic4 n5 delta6 bias7 i8 q9 kk10 l11 (fun points_z0 points_t1 points2 done3 basic4 n5 delta6 i7 q8 l9=>k (.exit 8) ⟨gp [(0,.s (.sl points_z0 points_t1 1 points2)),(3,.fl 0),(1,.s (.int .i64 done3)),(0,.s (.int .i64 basic4)),(0,.s (.int .i64 n5)),(0,.s (.int .i64 delta6)),(3,.s (.int .i64 i7)),(0,.s (.int .i64 q8))] 139,[.arr true 5 1 l9],s⟩):=by
 induction n generalizing points_z0 points_t1 points2 done3 basic4 n5 delta6 bias7 i8 q9 kk10 l11 with
 | zero=>rfl
 | succ n ih=>rw [renc_l2_s];unfold renc_l2f;exact (Eq.trans (by kernel_rfl) (cond_congr (cond_congr (vl_congr fun n'40=>(cond_congr (cond_congr (cond_congr (vl_congr fun n'42=>(vl_congr fun n'46=>(cond_congr (vl_congr fun n'47=>(cond_congr (vl_congr fun n'48=>(cond_congr (vl_congr fun n'49=>(cond_congr (vl_congr fun n'50=>(vl_congr fun n'51=>(ih points_z0 points_t1 points2 done3 basic4 n5 delta6 bias7 i8 n'50 n'51 (l11++[[(SV.int .u8 n'48)]])))) rfl)) rfl)) rfl)) rfl))) rfl) rfl) rfl)) rfl) rfl))
noncomputable def renc_l3f {R:Type} (lf n:Nat) (self:Bool→Bool→LL→Int→Int→Int→Int→Int→Int→LL→Option R) (points_z0 points_t1:Bool) (points2:LL) (done3 basic4 n5 delta6 bias7 i8:Int) (l9:LL) (k0:Bool→Bool→LL→Int→Int→Int→Int→Int→LL→Option R):Option R:=cond (ltI i8 (↑(List.length points2):Int)) (cond (inR i8 (List.length points2)) (cond (okE tI64 points2 (Int.toNat i8) 0) (vl (gE points2 (Int.toNat i8) 0) fun n'33=>cond (ltI n'33 n5) (vl (wi64 (delta6+(1:Int))) fun n'34=>cond (inR i8 (List.length points2)) (cond (okE tI64 points2 (Int.toNat i8) 0) (vl (gE points2 (Int.toNat i8) 0) fun n'36=>cond (n'36 != n5) (self points_z0 points_t1 points2 done3 basic4 n5 n'34 bias7 (wi64 (i8+(1:Int))) l9) (renc_l2 lf lf points_z0 points_t1 points2 done3 basic4 n5 n'34 bias7 i8 n'34 0 l9 (fun points_z'52 points_t'53 points'54 done'55 basic'56 n'57 delta'58 i'59 q'60 l'61=>cond (ltN q'60 36) (vl (↑(UInt8.toNat (dig36 (Int.toNat q'60))):Int) fun n'63=>cond (roomy ((List.length l'61)+1)) (vl (wi64 (done'55+(1:Int))) fun n'64=>cond (ltN delta'58 1152921504606846976) (cond (ltN n'64 1000000) (cond (ltI (0:Int) n'64) (vl (↑(adapt (Int.toNat delta'58) (Int.toNat n'64) (done'55==basic'56)):Int) fun n'65=>vl (wi64 (done'55+(1:Int))) fun n'66=>vl (wi64 (i'59+(1:Int))) fun n'67=>self points_z'52 points_t'53 points'54 n'66 basic'56 n'57 0 n'65 n'67 (l'61++[[(SV.int .u8 n'63)]])) (none)) (none)) (none)) (none)) (none)))) (none)) (none)) (cond (inR i8 (List.length points2)) (cond (okE tI64 points2 (Int.toNat i8) 0) (vl (gE points2 (Int.toNat i8) 0) fun n'38=>cond (n'38 != n5) (self points_z0 points_t1 points2 done3 basic4 n5 delta6 bias7 (wi64 (i8+(1:Int))) l9) (renc_l2 lf lf points_z0 points_t1 points2 done3 basic4 n5 delta6 bias7 i8 delta6 0 l9 (fun points_z'68 points_t'69 points'70 done'71 basic'72 n'73 delta'74 i'75 q'76 l'77=>cond (ltN q'76 36) (vl (↑(UInt8.toNat (dig36 (Int.toNat q'76))):Int) fun n'79=>cond (roomy ((List.length l'77)+1)) (vl (wi64 (done'71+(1:Int))) fun n'80=>cond (ltN delta'74 1152921504606846976) (cond (ltN n'80 1000000) (cond (ltI (0:Int) n'80) (vl (↑(adapt (Int.toNat delta'74) (Int.toNat n'80) (done'71==basic'72)):Int) fun n'81=>vl (wi64 (done'71+(1:Int))) fun n'82=>vl (wi64 (i'75+(1:Int))) fun n'83=>self points_z'68 points_t'69 points'70 n'82 basic'72 n'73 0 n'81 n'83 (l'77++[[(SV.int .u8 n'79)]])) (none)) (none)) (none)) (none)) (none)))) (none)) (none))) (none)) (none)) (k0 points_z0 points_t1 points2 done3 basic4 n5 delta6 bias7 l9)
noncomputable def renc_l3 {R:Type} (lf n:Nat) (points_z0 points_t1:Bool) (points2:LL) (done3 basic4 n5 delta6 bias7 i8:Int) (l9:LL) (k0:Bool→Bool→LL→Int→Int→Int→Int→Int→LL→Option R):Option R:=recN (α:=Bool→Bool→LL→Int→Int→Int→Int→Int→Int→LL→Option R) (fun _ _ _ _ _ _ _ _ _ _=>none) (fun n self points_z0 points_t1 points2 done3 basic4 n5 delta6 bias7 i8 l9=>renc_l3f lf n self points_z0 points_t1 points2 done3 basic4 n5 delta6 bias7 i8 l9 k0) n points_z0 points_t1 points2 done3 basic4 n5 delta6 bias7 i8 l9
theorem renc_l3_s {R:Type} (lf n:Nat) (points_z0 points_t1:Bool) (points2:LL) (done3 basic4 n5 delta6 bias7 i8:Int) (l9:LL) (k0:Bool→Bool→LL→Int→Int→Int→Int→Int→LL→Option R):renc_l3 lf (n+1) points_z0 points_t1 points2 done3 basic4 n5 delta6 bias7 i8 l9 k0=renc_l3f lf n (fun points_z0 points_t1 points2 done3 basic4 n5 delta6 bias7 i8 l9=>renc_l3 lf n points_z0 points_t1 points2 done3 basic4 n5 delta6 bias7 i8 l9 k0) points_z0 points_t1 points2 done3 basic4 n5 delta6 bias7 i8 l9 k0:=rfl
theorem renc_l3_eq (n:Nat) (points_z0 points_t1:Bool) (points2:LL) (done3 basic4 n5 delta6 bias7 i8:Int) (l9:LL):loopK 1 ((c_renc lf).keep 25) (bd (c_renc lf) cl yh (cd [1,1,1,1,1,1,1,0,0,0,1,0,1,1,1,1,0,1,0,0] b_renc)) n ⟨gp [(0,.s (.sl points_z0 points_t1 1 points2)),(3,.fl 0),(1,.s (.int .i64 done3)),(0,.s (.int .i64 basic4)),(0,.s (.int .i64 n5)),(0,.s (.int .i64 delta6)),(0,.s (.int .i64 bias7)),(2,.s (.int .i64 i8))] 140,[.arr true 5 1 l9],s⟩ k =
 renc_l3 lf n points_z0 points_t1 points2 done3 basic4 n5 delta6 bias7 i8 l9 (fun points_z0 points_t1 points2 done3 basic4 n5 delta6 bias7 l8=>k (.exit 6) ⟨gp [(0,.s (.sl points_z0 points_t1 1 points2)),(3,.fl 0),(1,.s (.int .i64 done3)),(0,.s (.int .i64 basic4)),(0,.s (.int .i64 n5)),(0,.s (.int .i64 delta6)),(0,.s (.int .i64 bias7))] 143,[.arr true 5 1 l8],s⟩):=by
 induction n generalizing points_z0 points_t1 points2 done3 basic4 n5 delta6 bias7 i8 l9 with
 | zero=>rfl
 | succ n ih=>rw [renc_l3_s];unfold renc_l3f;exact (Eq.trans (by kernel_rfl) (cond_congr (cond_congr (cond_congr (vl_congr fun n'33=>(cond_congr (vl_congr fun n'34=>(cond_congr (cond_congr (vl_congr fun n'36=>(cond_congr (ih points_z0 points_t1 points2 done3 basic4 n5 n'34 bias7 (wi64 (i8+(1:Int))) l9) ((renc_l2_eq lf cl yh s (blkK 8 (seqK (c_renc lf) cl yh (cd [1,1,1,1,1,1,1,0,0,0,1,0,1,1,1,1,0,1,0,0,1,0,0,1,1,1,1,1] b_renc) (blkK 7 (seqK (c_renc lf) cl yh (cd [1,1,1,1,1,1,1,0,0,0,1,0,1,1,1,1,0,1,0,0,1,1] b_renc) (lpK 1 ((c_renc lf).keep 25) (bd (c_renc lf) cl yh (cd [1,1,1,1,1,1,1,0,0,0,1,0,1,1,1,1,0,1,0,0] b_renc)) n k))))) lf points_z0 points_t1 points2 done3 basic4 n5 n'34 bias7 i8 n'34 0 l9).trans (congr rfl (funext fun points_z'52=>(funext fun points_t'53=>(funext fun points'54=>(funext fun done'55=>(funext fun basic'56=>(funext fun n'57=>(funext fun delta'58=>(funext fun i'59=>(funext fun q'60=>(funext fun l'61=>(Eq.trans (by kernel_rfl) (cond_congr (vl_congr fun n'63=>(cond_congr (vl_congr fun n'64=>(cond_congr (cond_congr (cond_congr (vl_congr fun n'65=>(vl_congr fun n'66=>(vl_congr fun n'67=>(ih points_z'52 points_t'53 points'54 n'66 basic'56 n'57 0 n'65 n'67 (l'61++[[(SV.int .u8 n'63)]]))))) rfl) rfl) rfl)) rfl)) rfl)))))))))))))))) rfl) rfl)) (cond_congr (cond_congr (vl_congr fun n'38=>(cond_congr (ih points_z0 points_t1 points2 done3 basic4 n5 delta6 bias7 (wi64 (i8+(1:Int))) l9) ((renc_l2_eq lf cl yh s (blkK 8 (seqK (c_renc lf) cl yh (cd [1,1,1,1,1,1,1,0,0,0,1,0,1,1,1,1,0,1,0,0,1,0,0,1,1,1,1,1] b_renc) (blkK 7 (seqK (c_renc lf) cl yh (cd [1,1,1,1,1,1,1,0,0,0,1,0,1,1,1,1,0,1,0,0,1,1] b_renc) (lpK 1 ((c_renc lf).keep 25) (bd (c_renc lf) cl yh (cd [1,1,1,1,1,1,1,0,0,0,1,0,1,1,1,1,0,1,0,0] b_renc)) n k))))) lf points_z0 points_t1 points2 done3 basic4 n5 delta6 bias7 i8 delta6 0 l9).trans (congr rfl (funext fun points_z'68=>(funext fun points_t'69=>(funext fun points'70=>(funext fun done'71=>(funext fun basic'72=>(funext fun n'73=>(funext fun delta'74=>(funext fun i'75=>(funext fun q'76=>(funext fun l'77=>(Eq.trans (by kernel_rfl) (cond_congr (vl_congr fun n'79=>(cond_congr (vl_congr fun n'80=>(cond_congr (cond_congr (cond_congr (vl_congr fun n'81=>(vl_congr fun n'82=>(vl_congr fun n'83=>(ih points_z'68 points_t'69 points'70 n'82 basic'72 n'73 0 n'81 n'83 (l'77++[[(SV.int .u8 n'79)]]))))) rfl) rfl) rfl)) rfl)) rfl)))))))))))))))) rfl) rfl))) rfl) rfl) rfl))
noncomputable def renc_l4f {R:Type} (lf n:Nat) (self:Bool→Bool→LL→Int→Int→Int→Int→Int→LL→Option R) (points_z0 points_t1:Bool) (points2:LL) (done3 basic4 n5 delta6 bias7:Int) (l8:LL) (k0:LL→Option R):Option R:=cond (ltI done3 (↑(List.length points2):Int)) (renc_l1 lf lf points_z0 points_t1 points2 done3 basic4 n5 delta6 bias7 1073741824 0 l8 (fun points_z'17 points_t'18 points'19 done'20 basic'21 n'22 delta'23 bias'24 least'25 l'26=>vl (wi64 (done'20+(1:Int))) fun n'29=>vl (wi64 ((wi64 (least'25-n'22))*n'29)) fun n'30=>renc_l3 lf lf points_z'17 points_t'18 points'19 done'20 basic'21 least'25 (wi64 (delta'23+n'30)) bias'24 0 l'26 (fun points_z'84 points_t'85 points'86 done'87 basic'88 n'89 delta'90 bias'91 l'92=>vl (wi64 (delta'90+(1:Int))) fun n'93=>vl (wi64 (n'89+(1:Int))) fun n'94=>self points_z'84 points_t'85 points'86 done'87 basic'88 n'94 n'93 bias'91 l'92))) (k0 l8)
noncomputable def renc_l4 {R:Type} (lf n:Nat) (points_z0 points_t1:Bool) (points2:LL) (done3 basic4 n5 delta6 bias7:Int) (l8:LL) (k0:LL→Option R):Option R:=recN (α:=Bool→Bool→LL→Int→Int→Int→Int→Int→LL→Option R) (fun _ _ _ _ _ _ _ _ _=>none) (fun n self points_z0 points_t1 points2 done3 basic4 n5 delta6 bias7 l8=>renc_l4f lf n self points_z0 points_t1 points2 done3 basic4 n5 delta6 bias7 l8 k0) n points_z0 points_t1 points2 done3 basic4 n5 delta6 bias7 l8
theorem renc_l4_s {R:Type} (lf n:Nat) (points_z0 points_t1:Bool) (points2:LL) (done3 basic4 n5 delta6 bias7:Int) (l8:LL) (k0:LL→Option R):renc_l4 lf (n+1) points_z0 points_t1 points2 done3 basic4 n5 delta6 bias7 l8 k0=renc_l4f lf n (fun points_z0 points_t1 points2 done3 basic4 n5 delta6 bias7 l8=>renc_l4 lf n points_z0 points_t1 points2 done3 basic4 n5 delta6 bias7 l8 k0) points_z0 points_t1 points2 done3 basic4 n5 delta6 bias7 l8 k0:=rfl
theorem renc_l4_eq (n:Nat) (points_z0 points_t1:Bool) (points2:LL) (done3 basic4 n5 delta6 bias7:Int) (l8:LL):loopK 1 ((c_renc lf).keep 15) (bd (c_renc lf) cl yh (cd [1,1,1,1,1,1,1,0,0,0] b_renc)) n ⟨gp [(0,.s (.sl points_z0 points_t1 1 points2)),(3,.fl 0),(1,.s (.int .i64 done3)),(0,.s (.int .i64 basic4)),(0,.s (.int .i64 n5)),(0,.s (.int .i64 delta6)),(0,.s (.int .i64 bias7))] 143,[.arr true 5 1 l8],s⟩ k =
 renc_l4 lf n points_z0 points_t1 points2 done3 basic4 n5 delta6 bias7 l8 (fun l0=>k (.exit 2) ⟨gp [(4,.fl 0)] 149,[.arr true 5 1 l0],s⟩):=by
 induction n generalizing points_z0 points_t1 points2 done3 basic4 n5 delta6 bias7 l8 with
 | zero=>rfl
 | succ n ih=>rw [renc_l4_s];unfold renc_l4f;exact (Eq.trans (by kernel_rfl) (cond_congr ((renc_l1_eq lf cl yh s (blkK 4 (seqK (c_renc lf) cl yh (cd [1,1,1,1,1,1,1,0,0,0,1,0,1,1] b_renc) (blkK 3 (lpK 1 ((c_renc lf).keep 15) (bd (c_renc lf) cl yh (cd [1,1,1,1,1,1,1,0,0,0] b_renc)) n k)))) lf points_z0 points_t1 points2 done3 basic4 n5 delta6 bias7 1073741824 0 l8).trans (congr rfl (funext fun points_z'17=>(funext fun points_t'18=>(funext fun points'19=>(funext fun done'20=>(funext fun basic'21=>(funext fun n'22=>(funext fun delta'23=>(funext fun bias'24=>(funext fun least'25=>(funext fun l'26=>(Eq.trans (by kernel_rfl) (vl_congr fun n'29=>(vl_congr fun n'30=>((renc_l3_eq lf cl yh s (blkK 6 (seqK (c_renc lf) cl yh (cd [1,1,1,1,1,1,1,0,0,0,1,0,1,1,1,1,1] b_renc) (blkK 3 (lpK 1 ((c_renc lf).keep 15) (bd (c_renc lf) cl yh (cd [1,1,1,1,1,1,1,0,0,0] b_renc)) n k)))) lf points_z'17 points_t'18 points'19 done'20 basic'21 least'25 (wi64 (delta'23+n'30)) bias'24 0 l'26).trans (congr rfl (funext fun points_z'84=>(funext fun points_t'85=>(funext fun points'86=>(funext fun done'87=>(funext fun basic'88=>(funext fun n'89=>(funext fun delta'90=>(funext fun bias'91=>(funext fun l'92=>(Eq.trans (by kernel_rfl) (vl_congr fun n'93=>(vl_congr fun n'94=>(ih points_z'84 points_t'85 points'86 done'87 basic'88 n'94 n'93 bias'91 l'92)))))))))))))))))))))))))))))) rfl))
noncomputable def renc {R:Type} (lf:Nat) (points_z0 points_t1:Bool) (points2:LL) (k0:Unit→Option R) (k1:By→Int→LL→Option R):Option R:=cond (ltI (256:Int) (↑(List.length points2):Int)) (k0 ()) (renc_l0 lf lf points_z0 points_t1 points2 0 [] (fun l'5=>k1 ([]:List UInt8) 2 l'5) (fun points_z'6 points_t'7 points'8 l'9=>vl (↑(List.length l'9):Int) fun n'12=>vl (↑(List.length l'9):Int) fun n'13=>cond (ltI (0:Int) n'13) (cond (roomy ((List.length l'9)+1)) (renc_l4 lf lf points_z'6 points_t'7 points'8 n'12 n'13 128 0 72 (l'9++[[(SV.int .u8 (45:Int))]]) (fun l'95=>cond (List.all l'95 isU8) (k1 (List.map elU8 l'95) 0 l'95) (none))) (none)) (renc_l4 lf lf points_z'6 points_t'7 points'8 n'12 n'13 128 0 72 l'9 (fun l'96=>cond (List.all l'96 isU8) (k1 (List.map elU8 l'96) 0 l'96) (none)))))
theorem renc_ev (d:Nat) (points_z0 points_t1:Bool) (points2:LL):evC (c_renc lf) (d+1) σ yh 110 [.s (.sl points_z0 points_t1 1 points2)] [] s=renc lf points_z0 points_t1 points2 (fun _=>some (.tup [.s (.str ([]:List UInt8)),.s (.int .i64 (3:Int))],[],s)) (fun r0 r1 l2=>some (.tup [.s (.str r0),.s (.int .i64 r1)],[.arr true 5 1 l2],s)):=by
 refine (evC_eq (fn:=Tryz.f110) (by kernel_rfl) (by kernel_rfl) (by kernel_rfl)).trans ?_
 generalize evC (c_renc lf) d=cl
 unfold renc;exact (Eq.trans (by kernel_rfl) (cond_congr rfl ((renc_l0_eq lf cl yh s (blkK 0 (seqK (c_renc lf) cl yh (cd [1,1,1,1] b_renc) (retK (c_renc lf) Tryz.f110))) lf points_z0 points_t1 points2 0 []).trans (congr (congr rfl (funext fun l'5=>(by kernel_rfl))) (funext fun points_z'6=>(funext fun points_t'7=>(funext fun points'8=>(funext fun l'9=>(Eq.trans (by kernel_rfl) (vl_congr fun n'12=>(vl_congr fun n'13=>(cond_congr (cond_congr ((renc_l4_eq lf cl yh s (blkK 2 (seqK (c_renc lf) cl yh (cd [1,1,1,1,1,1,1,1] b_renc) (retK (c_renc lf) Tryz.f110))) lf points_z'6 points_t'7 points'8 n'12 n'13 128 0 72 (l'9++[[(SV.int .u8 (45:Int))]])).trans (congr rfl (funext fun l'95=>(by kernel_rfl)))) rfl) ((renc_l4_eq lf cl yh s (blkK 2 (seqK (c_renc lf) cl yh (cd [1,1,1,1,1,1,1,1] b_renc) (retK (c_renc lf) Tryz.f110))) lf points_z'6 points_t'7 points'8 n'12 n'13 128 0 72 l'9).trans (congr rfl (funext fun l'96=>(by kernel_rfl))))))))))))))))
noncomputable abbrev b_rpdec:Code:=bodyOf Tryz.f151
noncomputable def c_rpdec (lf:Nat):Cfg:=mkCfg lf [151] (lookK [(27,[0,1,0,2,1,0,0,0,0,0,0,0]),(23,[0,1,0,2,1,0,0,0,0]),(13,[0,1,0,0,1,0]),(5,[0,1,0,0,0])]) [(180,X_rval),(148,X_rthr),(150,X_radapt),(147,X_rpoint)] (lookK [(51,[2,0]),(50,[0,5,1,0,0,0,0]),(49,[2,0]),(48,[0,5,1,0,0,0,0,118]),(47,[0,5,1,0,0,0,0]),(46,[2,0]),(45,[0,5,1,0,0,0,0,103]),(44,[0,5,1,0,0,0,0]),(43,[0,5,1,0,0,0,0]),(42,[0,5,1,0,0,0,0]),(41,[0,5,1,0,0,0]),(26,[0,5,1,0,0,0,0,0,0,0]),(40,[2,0]),(39,[0,5,1,0,0,0,0,0,0,0,77]),(38,[0,5,1,0,0,0,0,0,0,0]),(37,[0,5,1,0,0,0,0,0,0,0,1,69]),(36,[0,5,1,0,0,0,0,0,0,0,0,0]),(35,[2,0]),(34,[0,5,1,0,0,0,0,0,0,0,0,64]),(33,[0,5,1,0,0,0,0,0,0,0,0]),(32,[2,0]),(31,[0,5,1,0,0,0,0,0,0,0,0,57]),(30,[0,5,1,0,0,0,0,0,0,0,0]),(29,[0,5,1,0,0,0,0,0,0,0,0]),(28,[2,0]),(27,[0,5,1,0,0,0,0,0,0,0,50]),(25,[0,5,1,0,0,0,0,0,0,0]),(24,[0,5,1,0,0,0,0,0,0]),(23,[0,5,1,0,0,0,0,46]),(22,[0,5,1,0,0,0,0]),(21,[0,5,1,0,0,0]),(20,[0,5,1]),(19,[0,5,1,44]),(18,[0,3,1,1]),(17,[2,0]),(16,[0,3,1,43]),(14,[0,3,1,0]),(15,[0,3,1,0]),(13,[0,3,1,0,30]),(12,[0,3,1,0]),(11,[0,3,1]),(6,[0,3,0]),(10,[0,3,0]),(9,[0,3,0,28]),(8,[2,0]),(7,[0,3,0,24]),(5,[0,3,0,18]),(4,[0,3,0]),(3,[0,3]),(2,[2,0]),(1,[0,19]),(0,[0])]) [180,148,150,147] (lookK [(4,[6]),(5,[0,5,1,0,0,0,0]),(6,[0,5,1,0,0,1,0]),(7,[0,5,1,0,0,0,0,0,0,0]),(2,[0,3,1]),(3,[0,3,1,0]),(0,[0,3]),(1,[0,3,0])]) (some [2,0]) [] [] [] (rw:=[(47,6)])
noncomputable def rpdec_l0f {R:Type} (lf n:Nat) (self:By→Int→Int→Option R) (s0:By) (cut1 i2:Int) (k0:Unit→Option R) (k1:By→Int→Option R):Option R:=cond (ltI i2 (↑(List.length s0):Int)) (cond (inR i2 (List.length s0)) (cond (not (ltI (bAt s0 i2) (128:Int))) (k0 ()) (cond (inR i2 (List.length s0)) (cond ((bAt s0 i2)==(45:Int)) (self s0 i2 (wi64 (i2+(1:Int)))) (self s0 cut1 (wi64 (i2+(1:Int))))) (none))) (none)) (k1 s0 cut1)
noncomputable def rpdec_l0 {R:Type} (lf n:Nat) (s0:By) (cut1 i2:Int) (k0:Unit→Option R) (k1:By→Int→Option R):Option R:=recN (α:=By→Int→Int→Option R) (fun _ _ _=>none) (fun n self s0 cut1 i2=>rpdec_l0f lf n self s0 cut1 i2 k0 k1) n s0 cut1 i2
theorem rpdec_l0_s {R:Type} (lf n:Nat) (s0:By) (cut1 i2:Int) (k0:Unit→Option R) (k1:By→Int→Option R):rpdec_l0 lf (n+1) s0 cut1 i2 k0 k1=rpdec_l0f lf n (fun s0 cut1 i2=>rpdec_l0 lf n s0 cut1 i2 k0 k1) s0 cut1 i2 k0 k1:=rfl
theorem rpdec_l0_eq (n:Nat) (s0:By) (cut1 i2:Int):loopK 0 ((c_rpdec lf).keep 5) (bd (c_rpdec lf) cl yh (cd [1,1,1,0,1,0,0] b_rpdec)) n ⟨gp [(0,.s (.str s0)),(3,.s (.int .i64 cut1)),(0,.s (.int .i64 i2))] 129,[],s⟩ k =
 rpdec_l0 lf n s0 cut1 i2 (fun _=>k .ret ⟨gp [(2,.fl 0),(0,.s (.int .i64 (4:Int)))] 131,[.arr true 3 1 []],s⟩) (fun s0 cut1=>k (.exit 0) ⟨gp [(0,.s (.str s0)),(3,.s (.int .i64 cut1))] 130,[],s⟩):=by
 induction n generalizing s0 cut1 i2 with
 | zero=>rfl
 | succ n ih=>rw [rpdec_l0_s];unfold rpdec_l0f;exact (Eq.trans (by kernel_rfl) (cond_congr (cond_congr (cond_congr rfl (cond_congr (cond_congr (ih s0 i2 (wi64 (i2+(1:Int)))) (ih s0 cut1 (wi64 (i2+(1:Int))))) rfl)) rfl) rfl))
noncomputable def rpdec_l1f {R:Type} (lf n:Nat) (self:By→Int→Int→LL→Option R) (s0:By) (cut1 i2:Int) (l3:LL) (k0:By→Int→LL→Option R):Option R:=cond (ltI i2 cut1) (cond (inR i2 (List.length s0)) (cond (roomy ((List.length l3)+1)) (self s0 cut1 (wi64 (i2+(1:Int))) (l3++[[(SV.int .i64 (wi64 (bAt s0 i2)))]])) (none)) (none)) (k0 s0 cut1 l3)
noncomputable def rpdec_l1 {R:Type} (lf n:Nat) (s0:By) (cut1 i2:Int) (l3:LL) (k0:By→Int→LL→Option R):Option R:=recN (α:=By→Int→Int→LL→Option R) (fun _ _ _ _=>none) (fun n self s0 cut1 i2 l3=>rpdec_l1f lf n self s0 cut1 i2 l3 k0) n s0 cut1 i2 l3
theorem rpdec_l1_s {R:Type} (lf n:Nat) (s0:By) (cut1 i2:Int) (l3:LL) (k0:By→Int→LL→Option R):rpdec_l1 lf (n+1) s0 cut1 i2 l3 k0=rpdec_l1f lf n (fun s0 cut1 i2 l3=>rpdec_l1 lf n s0 cut1 i2 l3 k0) s0 cut1 i2 l3 k0:=rfl
theorem rpdec_l1_eq (n:Nat) (s0:By) (cut1 i2:Int) (l3:LL):loopK 1 ((c_rpdec lf).keep 13) (bd (c_rpdec lf) cl yh (cd [1,1,1,1,1,0,1,0,0] b_rpdec)) n ⟨gp [(0,.s (.str s0)),(3,.s (.int .i64 cut1)),(1,.fl 0),(0,.s (.int .i64 i2))] 127,[.arr true 3 1 l3],s⟩ k =
 rpdec_l1 lf n s0 cut1 i2 l3 (fun s0 cut1 l2=>k (.exit 2) ⟨gp [(0,.s (.str s0)),(3,.s (.int .i64 cut1)),(1,.fl 0)] 128,[.arr true 3 1 l2],s⟩):=by
 induction n generalizing s0 cut1 i2 l3 with
 | zero=>rfl
 | succ n ih=>rw [rpdec_l1_s];unfold rpdec_l1f;exact (Eq.trans (by kernel_rfl) (cond_congr (cond_congr (cond_congr (ih s0 cut1 (wi64 (i2+(1:Int))) (l3++[[(SV.int .i64 (wi64 (bAt s0 i2)))]])) rfl) rfl) rfl))
noncomputable def rpdec_l2f {R:Type} (lf n:Nat) (self:By→LL→Int→Int→Int→Int→Int→Int→Int→LL→Option R) (s0:By) (out1:LL) (at2 n3 i4 bias5 old6 w7 kk8:Int) (l9:LL) (k0:Int→LL→Option R) (k1:By→LL→Int→Int→Int→Int→LL→Option R):Option R:=cond (not (ltI at2 (↑(List.length s0):Int))) (k0 4 l9) (cond (inR at2 (List.length s0)) (cond (inR (bAt s0 at2) 256) (vl (val36I (u8n (bAt s0 at2))) fun n'8=>cond (ltI n'8 (0:Int)) (k0 4 l9) (vl (wi64 (i4+(wi64 (n'8*w7)))) fun n'10=>cond (ltI (1099511627776:Int) n'10) (k0 19 l9) (cond (ltN kk8 10000000000) (cond (ltN bias5 1000000) (vl (thrI (Int.mul (36:Int) kk8) bias5) fun n'12=>cond (ltI n'8 n'12) (k1 s0 out1 (wi64 (at2+(1:Int))) n3 n'10 old6 l9) (vl (wi64 ((36:Int)-n'12)) fun n'13=>cond (ltI (1099511627776:Int) (wi64 (w7*n'13))) (k0 19 l9) (self s0 out1 (wi64 (at2+(1:Int))) n3 n'10 bias5 old6 (wi64 (w7*n'13)) (wi64 (kk8+(1:Int))) l9))) (none)) (none)))) (none)) (none))
noncomputable def rpdec_l2 {R:Type} (lf n:Nat) (s0:By) (out1:LL) (at2 n3 i4 bias5 old6 w7 kk8:Int) (l9:LL) (k0:Int→LL→Option R) (k1:By→LL→Int→Int→Int→Int→LL→Option R):Option R:=recN (α:=By→LL→Int→Int→Int→Int→Int→Int→Int→LL→Option R) (fun _ _ _ _ _ _ _ _ _ _=>none) (fun n self s0 out1 at2 n3 i4 bias5 old6 w7 kk8 l9=>rpdec_l2f lf n self s0 out1 at2 n3 i4 bias5 old6 w7 kk8 l9 k0 k1) n s0 out1 at2 n3 i4 bias5 old6 w7 kk8 l9
theorem rpdec_l2_s {R:Type} (lf n:Nat) (s0:By) (out1:LL) (at2 n3 i4 bias5 old6 w7 kk8:Int) (l9:LL) (k0:Int→LL→Option R) (k1:By→LL→Int→Int→Int→Int→LL→Option R):rpdec_l2 lf (n+1) s0 out1 at2 n3 i4 bias5 old6 w7 kk8 l9 k0 k1=rpdec_l2f lf n (fun s0 out1 at2 n3 i4 bias5 old6 w7 kk8 l9=>rpdec_l2 lf n s0 out1 at2 n3 i4 bias5 old6 w7 kk8 l9 k0 k1) s0 out1 at2 n3 i4 bias5 old6 w7 kk8 l9 k0 k1:=rfl
theorem rpdec_l2_eq (n:Nat) (s0:By) (out1:LL) (at2 n3 i4 bias5 old6 w7 kk8:Int) (l9:LL):loopK 1 ((c_rpdec lf).keep 27) (bd (c_rpdec lf) cl yh (cd [1,1,1,1,1,1,1,1,1,1,1,0,0,0,1,0,1,0,1,0,0] b_rpdec)) n ⟨gp [(0,.s (.str s0)),(5,.s (.sl false false 1 out1)),(1,.s (.int .i64 at2)),(0,.s (.int .i64 n3)),(0,.s (.int .i64 i4)),(0,.s (.int .i64 bias5)),(0,.s (.bool false)),(0,.s (.int .i64 old6)),(0,.s (.int .i64 w7)),(0,.s (.int .i64 kk8))] 119,[.arr true 3 1 l9],s⟩ k =
 rpdec_l2 lf n s0 out1 at2 n3 i4 bias5 old6 w7 kk8 l9 (fun n0 l1=>k .ret ⟨gp [(2,.fl 1),(0,.s (.int .i64 n0))] 131,[.arr true 3 1 l1,.arr true 3 1 []],s⟩) (fun s0 out1 at2 n3 i4 old5 l6=>k (.exit 6) ⟨gp [(0,.s (.str s0)),(5,.s (.sl false false 1 out1)),(1,.s (.int .i64 at2)),(0,.s (.int .i64 n3)),(0,.s (.int .i64 i4)),(1,.s (.bool false)),(0,.s (.int .i64 old5))] 121,[.arr true 3 1 l6],s⟩):=by
 induction n generalizing s0 out1 at2 n3 i4 bias5 old6 w7 kk8 l9 with
 | zero=>rfl
 | succ n ih=>rw [rpdec_l2_s];unfold rpdec_l2f;exact (Eq.trans (by kernel_rfl) (cond_congr rfl (cond_congr (cond_congr (vl_congr fun n'8=>(cond_congr rfl (vl_congr fun n'10=>(cond_congr rfl (cond_congr (cond_congr (vl_congr fun n'12=>(cond_congr rfl (vl_congr fun n'13=>(cond_congr rfl (ih s0 out1 (wi64 (at2+(1:Int))) n3 n'10 bias5 old6 (wi64 (w7*n'13)) (wi64 (kk8+(1:Int))) l9))))) rfl) rfl))))) rfl) rfl)))
noncomputable def rpdec_l3f {R:Type} (lf n:Nat) (self:By→LL→Int→Int→Int→Int→LL→Option R) (s0:By) (out1:LL) (at2 n3 i4 bias5:Int) (l6:LL) (k0:Int→LL→Option R) (k1:LL→LL→Option R) (k2:LL→LL→Option R):Option R:=cond (ltI at2 (↑(List.length s0):Int)) (rpdec_l2 lf lf s0 out1 at2 n3 i4 bias5 i4 1 0 l6 (fun n'14 l'15=>k0 n'14 l'15) (fun s'16 out'17 at'18 n'19 i'20 old'21 l'22=>vl (wi64 ((↑(List.length out'17):Int)+(1:Int))) fun n'25=>cond (ltN (wi64 (i'20-old'21)) 1152921504606846976) (cond (ltN n'25 1000000) (cond (ltI (0:Int) n'25) (vl (↑(adapt (Int.toNat (wi64 (i'20-old'21))) (Int.toNat n'25) false):Int) fun n'26=>vl (wi64 ((↑(List.length out'17):Int)+(1:Int))) fun n'29=>cond (n'29 != (0:Int)) (vl (wi64 (Int.tdiv i'20 n'29)) fun n'30=>vl (wi64 ((↑(List.length out'17):Int)+(1:Int))) fun n'32=>cond (n'32 != (0:Int)) (cond (not (ptI (wi64 (n'19+n'30)))) (k0 2 l'22) (cond (sub3 (0:Int) (Int.tmod i'20 n'32) (List.length out'17)) (vl (cut out'17 (0:Int) (Int.tmod i'20 n'32)) fun l'33=>cond (sub3 (Int.tmod i'20 n'32) (↑(List.length out'17):Int) (List.length out'17)) (vl (cut out'17 (Int.tmod i'20 n'32) (↑(List.length out'17):Int)) fun l'34=>cond (roomy (0+(List.length l'33))) (cond (roomy ((List.length l'33)+1)) (cond (roomy ((List.length (l'33++[[(SV.int .i64 (wi64 (n'19+n'30)))]]))+(List.length l'34))) (cond (ltI (256:Int) (↑(List.length ((l'33++[[(SV.int .i64 (wi64 (n'19+n'30)))]])++l'34)):Int)) (k1 l'22 ((l'33++[[(SV.int .i64 (wi64 (n'19+n'30)))]])++l'34)) (vl (wi64 ((Int.tmod i'20 n'32)+(1:Int))) fun n'35=>self s'16 ((l'33++[[(SV.int .i64 (wi64 (n'19+n'30)))]])++l'34) at'18 (wi64 (n'19+n'30)) n'35 n'26 l'22)) (none)) (none)) (none)) (none)) (none))) (none)) (none)) (none)) (none)) (none))) (k2 out1 l6)
noncomputable def rpdec_l3 {R:Type} (lf n:Nat) (s0:By) (out1:LL) (at2 n3 i4 bias5:Int) (l6:LL) (k0:Int→LL→Option R) (k1:LL→LL→Option R) (k2:LL→LL→Option R):Option R:=recN (α:=By→LL→Int→Int→Int→Int→LL→Option R) (fun _ _ _ _ _ _ _=>none) (fun n self s0 out1 at2 n3 i4 bias5 l6=>rpdec_l3f lf n self s0 out1 at2 n3 i4 bias5 l6 k0 k1 k2) n s0 out1 at2 n3 i4 bias5 l6
theorem rpdec_l3_s {R:Type} (lf n:Nat) (s0:By) (out1:LL) (at2 n3 i4 bias5:Int) (l6:LL) (k0:Int→LL→Option R) (k1:LL→LL→Option R) (k2:LL→LL→Option R):rpdec_l3 lf (n+1) s0 out1 at2 n3 i4 bias5 l6 k0 k1 k2=rpdec_l3f lf n (fun s0 out1 at2 n3 i4 bias5 l6=>rpdec_l3 lf n s0 out1 at2 n3 i4 bias5 l6 k0 k1 k2) s0 out1 at2 n3 i4 bias5 l6 k0 k1 k2:=rfl
theorem rpdec_l3_eq (n:Nat) (s0:By) (out1:LL) (at2 n3 i4 bias5:Int) (l6:LL):loopK 1 ((c_rpdec lf).keep 23) (bd (c_rpdec lf) cl yh (cd [1,1,1,1,1,1,1,1,1,1,1,0,0,0] b_rpdec)) n ⟨gp [(0,.s (.str s0)),(5,.s (.sl false false 1 out1)),(1,.s (.int .i64 at2)),(0,.s (.int .i64 n3)),(0,.s (.int .i64 i4)),(0,.s (.int .i64 bias5)),(0,.s (.bool false))] 122,[.arr true 3 1 l6],s⟩ k =
 rpdec_l3 lf n s0 out1 at2 n3 i4 bias5 l6 (fun n0 l1=>k .ret ⟨gp [(2,.fl 1),(0,.s (.int .i64 n0))] 131,[.arr true 3 1 l1,.arr true 3 1 []],s⟩) (fun l0 l1=>k .ret ⟨gp [(2,.fl 2),(0,.s (.int .i64 (3:Int)))] 131,[.arr true 3 1 l0,.arr false 3 1 l1,.arr true 3 1 []],s⟩) (fun out0 l1=>k (.exit 4) ⟨gp [(6,.s (.sl false false 1 out0))] 128,[.arr true 3 1 l1],s⟩):=by
 induction n generalizing s0 out1 at2 n3 i4 bias5 l6 with
 | zero=>rfl
 | succ n ih=>rw [rpdec_l3_s];unfold rpdec_l3f;exact (Eq.trans (by kernel_rfl) (cond_congr ((rpdec_l2_eq lf cl yh s (blkK 6 (seqK (c_rpdec lf) cl yh (cd [1,1,1,1,1,1,1,1,1,1,1,0,0,0,1,0,1,1] b_rpdec) (blkK 5 (lpK 1 ((c_rpdec lf).keep 23) (bd (c_rpdec lf) cl yh (cd [1,1,1,1,1,1,1,1,1,1,1,0,0,0] b_rpdec)) n k)))) lf s0 out1 at2 n3 i4 bias5 i4 1 0 l6).trans (congr (congr rfl (funext fun n'14=>(funext fun l'15=>(by kernel_rfl)))) (funext fun s'16=>(funext fun out'17=>(funext fun at'18=>(funext fun n'19=>(funext fun i'20=>(funext fun old'21=>(funext fun l'22=>(Eq.trans (by kernel_rfl) (vl_congr fun n'25=>(cond_congr (cond_congr (cond_congr (vl_congr fun n'26=>(vl_congr fun n'29=>(cond_congr (vl_congr fun n'30=>(vl_congr fun n'32=>(cond_congr (cond_congr rfl (cond_congr (vl_congr fun l'33=>(cond_congr (vl_congr fun l'34=>(cond_congr (cond_congr (cond_congr (cond_congr rfl (vl_congr fun n'35=>(ih s'16 ((l'33++[[(SV.int .i64 (wi64 (n'19+n'30)))]])++l'34) at'18 (wi64 (n'19+n'30)) n'35 n'26 l'22))) rfl) rfl) rfl)) rfl)) rfl)) rfl))) rfl))) rfl) rfl) rfl)))))))))))) rfl))
noncomputable def rpdec_l4f {R:Type} (lf n:Nat) (self:By→Int→Int→Int→Int→LL→Option R) (s0:By) (at1 i2 w3 kk4:Int) (l5:LL) (k0:Int→LL→Option R) (k1:By→Int→Int→LL→Option R):Option R:=cond (not (ltI at1 (↑(List.length s0):Int))) (k0 4 l5) (cond (inR at1 (List.length s0)) (cond (inR (bAt s0 at1) 256) (vl (val36I (u8n (bAt s0 at1))) fun n'37=>cond (ltI n'37 (0:Int)) (k0 4 l5) (vl (wi64 (i2+(wi64 (n'37*w3)))) fun n'39=>cond (ltI (1099511627776:Int) n'39) (k0 19 l5) (cond (ltN kk4 10000000000) (cond (ltN (72:Int) 1000000) (vl (thrI (Int.mul (36:Int) kk4) (72:Int)) fun n'41=>cond (ltI n'37 n'41) (k1 s0 (wi64 (at1+(1:Int))) n'39 l5) (vl (wi64 ((36:Int)-n'41)) fun n'42=>cond (ltI (1099511627776:Int) (wi64 (w3*n'42))) (k0 19 l5) (self s0 (wi64 (at1+(1:Int))) n'39 (wi64 (w3*n'42)) (wi64 (kk4+(1:Int))) l5))) (none)) (none)))) (none)) (none))
noncomputable def rpdec_l4 {R:Type} (lf n:Nat) (s0:By) (at1 i2 w3 kk4:Int) (l5:LL) (k0:Int→LL→Option R) (k1:By→Int→Int→LL→Option R):Option R:=recN (α:=By→Int→Int→Int→Int→LL→Option R) (fun _ _ _ _ _ _=>none) (fun n self s0 at1 i2 w3 kk4 l5=>rpdec_l4f lf n self s0 at1 i2 w3 kk4 l5 k0 k1) n s0 at1 i2 w3 kk4 l5
theorem rpdec_l4_s {R:Type} (lf n:Nat) (s0:By) (at1 i2 w3 kk4:Int) (l5:LL) (k0:Int→LL→Option R) (k1:By→Int→Int→LL→Option R):rpdec_l4 lf (n+1) s0 at1 i2 w3 kk4 l5 k0 k1=rpdec_l4f lf n (fun s0 at1 i2 w3 kk4 l5=>rpdec_l4 lf n s0 at1 i2 w3 kk4 l5 k0 k1) s0 at1 i2 w3 kk4 l5 k0 k1:=rfl
theorem rpdec_l4_eq (n:Nat) (s0:By) (at1 i2 w3 kk4:Int) (l5:LL):loopK 1 ((c_rpdec lf).keep 27) (bd (c_rpdec lf) cl yh (cd [1,1,1,1,1,1,1,1,1,1,1,0,0,0,1,0,1,0,1,0,0] b_rpdec)) n ⟨gp [(0,.s (.str s0)),(5,.fl 0),(1,.s (.int .i64 at1)),(0,.s (.int .i64 (128:Int))),(0,.s (.int .i64 i2)),(0,.s (.int .i64 (72:Int))),(0,.s (.bool true)),(0,.s (.int .i64 (0:Int))),(0,.s (.int .i64 w3)),(0,.s (.int .i64 kk4))] 119,[.arr true 3 1 l5],s⟩ k =
 rpdec_l4 lf n s0 at1 i2 w3 kk4 l5 (fun n0 l1=>k .ret ⟨gp [(2,.fl 1),(0,.s (.int .i64 n0))] 131,[.arr true 3 1 l1,.arr true 3 1 []],s⟩) (fun s0 at1 i2 l3=>k (.exit 6) ⟨gp [(0,.s (.str s0)),(5,.fl 0),(1,.s (.int .i64 at1)),(0,.s (.int .i64 (128:Int))),(0,.s (.int .i64 i2)),(1,.s (.bool true)),(0,.s (.int .i64 (0:Int)))] 121,[.arr true 3 1 l3],s⟩):=by
 induction n generalizing s0 at1 i2 w3 kk4 l5 with
 | zero=>rfl
 | succ n ih=>rw [rpdec_l4_s];unfold rpdec_l4f;exact (Eq.trans (by kernel_rfl) (cond_congr rfl (cond_congr (cond_congr (vl_congr fun n'37=>(cond_congr rfl (vl_congr fun n'39=>(cond_congr rfl (cond_congr (cond_congr (vl_congr fun n'41=>(cond_congr rfl (vl_congr fun n'42=>(cond_congr rfl (ih s0 (wi64 (at1+(1:Int))) n'39 (wi64 (w3*n'42)) (wi64 (kk4+(1:Int))) l5))))) rfl) rfl))))) rfl) rfl)))
noncomputable def rpdec_l5f {R:Type} (lf n:Nat) (self:By→Int→LL→Option R) (s0:By) (at1:Int) (l2:LL) (k0:Int→LL→Option R) (k1:LL→LL→Option R) (k2:LL→LL→Option R) (k3:LL→Option R):Option R:=cond (ltI at1 (↑(List.length s0):Int)) (rpdec_l4 lf lf s0 at1 0 1 0 l2 (fun n'43 l'44=>k0 n'43 l'44) (fun s'45 at'46 i'47 l'48=>vl (wi64 (i'47-(0:Int))) fun n'52=>vl (wi64 ((↑(List.length l'48):Int)+(1:Int))) fun n'53=>cond (ltN n'52 1152921504606846976) (cond (ltN n'53 1000000) (cond (ltI (0:Int) n'53) (vl (↑(adapt (Int.toNat n'52) (Int.toNat n'53) true):Int) fun n'54=>vl (wi64 ((↑(List.length l'48):Int)+(1:Int))) fun n'58=>cond (n'58 != (0:Int)) (vl (wi64 (Int.tdiv i'47 n'58)) fun n'59=>vl (wi64 ((128:Int)+n'59)) fun n'60=>vl (wi64 ((↑(List.length l'48):Int)+(1:Int))) fun n'62=>cond (n'62 != (0:Int)) (cond (not (ptI n'60)) (k0 2 l'48) (cond (sub3 (0:Int) (Int.tmod i'47 n'62) (List.length l'48)) (cond (sub3 (Int.tmod i'47 n'62) (↑(List.length l'48):Int) (List.length l'48)) (cond (roomy (0+(List.length (List.take ((Int.toNat (Int.tmod i'47 n'62))-0) (List.drop 0 l'48))))) (cond (roomy ((List.length (List.take ((Int.toNat (Int.tmod i'47 n'62))-0) (List.drop 0 l'48)))+1)) (vl ((List.take ((Int.toNat (Int.tmod i'47 n'62))-0) (List.drop 0 l'48))++[[(SV.int .i64 n'60)]]) fun l'63=>cond (roomy ((List.length l'63)+(List.length (List.take ((Int.toNat (↑(List.length l'48):Int))-(Int.toNat (Int.tmod i'47 n'62))) (List.drop (Int.toNat (Int.tmod i'47 n'62)) l'48))))) (vl (l'63++(List.take ((Int.toNat (↑(List.length l'48):Int))-(Int.toNat (Int.tmod i'47 n'62))) (List.drop (Int.toNat (Int.tmod i'47 n'62)) l'48))) fun l'64=>cond (ltI (256:Int) (↑(List.length l'64):Int)) (k1 l'48 l'64) (vl (wi64 ((Int.tmod i'47 n'62)+(1:Int))) fun n'65=>rpdec_l3 lf n s'45 l'64 at'46 n'60 n'65 n'54 l'48 (fun n'66 l'67=>k0 n'66 l'67) (fun l'68 l'69=>k1 l'68 l'69) (fun out'70 l'71=>k2 out'70 l'71))) (none)) (none)) (none)) (none)) (none))) (none)) (none)) (none)) (none)) (none))) (k3 l2)
noncomputable def rpdec_l5 {R:Type} (lf n:Nat) (s0:By) (at1:Int) (l2:LL) (k0:Int→LL→Option R) (k1:LL→LL→Option R) (k2:LL→LL→Option R) (k3:LL→Option R):Option R:=recN (α:=By→Int→LL→Option R) (fun _ _ _=>none) (fun n self s0 at1 l2=>rpdec_l5f lf n self s0 at1 l2 k0 k1 k2 k3) n s0 at1 l2
theorem rpdec_l5_s {R:Type} (lf n:Nat) (s0:By) (at1:Int) (l2:LL) (k0:Int→LL→Option R) (k1:LL→LL→Option R) (k2:LL→LL→Option R) (k3:LL→Option R):rpdec_l5 lf (n+1) s0 at1 l2 k0 k1 k2 k3=rpdec_l5f lf n (fun s0 at1 l2=>rpdec_l5 lf n s0 at1 l2 k0 k1 k2 k3) s0 at1 l2 k0 k1 k2 k3:=rfl
theorem rpdec_l5_eq (n:Nat) (s0:By) (at1:Int) (l2:LL):loopK 1 ((c_rpdec lf).keep 23) (bd (c_rpdec lf) cl yh (cd [1,1,1,1,1,1,1,1,1,1,1,0,0,0] b_rpdec)) n ⟨gp [(0,.s (.str s0)),(5,.fl 0),(1,.s (.int .i64 at1)),(0,.s (.int .i64 (128:Int))),(0,.s (.int .i64 (0:Int))),(0,.s (.int .i64 (72:Int))),(0,.s (.bool true))] 122,[.arr true 3 1 l2],s⟩ k =
 rpdec_l5 lf n s0 at1 l2 (fun n0 l1=>k .ret ⟨gp [(2,.fl 1),(0,.s (.int .i64 n0))] 131,[.arr true 3 1 l1,.arr true 3 1 []],s⟩) (fun l0 l1=>k .ret ⟨gp [(2,.fl 2),(0,.s (.int .i64 (3:Int)))] 131,[.arr true 3 1 l0,.arr false 3 1 l1,.arr true 3 1 []],s⟩) (fun out0 l1=>k (.exit 4) ⟨gp [(6,.s (.sl false false 1 out0))] 128,[.arr true 3 1 l1],s⟩) (fun l0=>k (.exit 4) ⟨gp [(6,.fl 0)] 128,[.arr true 3 1 l0],s⟩):=by
 induction n generalizing s0 at1 l2 with
 | zero=>rfl
 | succ n ih=>rw [rpdec_l5_s];unfold rpdec_l5f;exact (Eq.trans (by kernel_rfl) (cond_congr ((rpdec_l4_eq lf cl yh s (blkK 6 (seqK (c_rpdec lf) cl yh (cd [1,1,1,1,1,1,1,1,1,1,1,0,0,0,1,0,1,1] b_rpdec) (blkK 5 (lpK 1 ((c_rpdec lf).keep 23) (bd (c_rpdec lf) cl yh (cd [1,1,1,1,1,1,1,1,1,1,1,0,0,0] b_rpdec)) n k)))) lf s0 at1 0 1 0 l2).trans (congr (congr rfl (funext fun n'43=>(funext fun l'44=>(by kernel_rfl)))) (funext fun s'45=>(funext fun at'46=>(funext fun i'47=>(funext fun l'48=>(Eq.trans (by kernel_rfl) (vl_congr fun n'52=>(vl_congr fun n'53=>(cond_congr (cond_congr (cond_congr (vl_congr fun n'54=>(vl_congr fun n'58=>(cond_congr (vl_congr fun n'59=>(vl_congr fun n'60=>(vl_congr fun n'62=>(cond_congr (cond_congr rfl (cond_congr (cond_congr (cond_congr (cond_congr (vl_congr fun l'63=>(cond_congr (vl_congr fun l'64=>(cond_congr rfl (vl_congr fun n'65=>((rpdec_l3_eq lf cl yh s k n s'45 l'64 at'46 n'60 n'65 n'54 l'48).trans (congr (congr (congr rfl (funext fun n'66=>(funext fun l'67=>rfl))) (funext fun l'68=>(funext fun l'69=>rfl))) (funext fun out'70=>(funext fun l'71=>rfl))))))) rfl)) rfl) rfl) rfl) rfl)) rfl)))) rfl))) rfl) rfl) rfl)))))))))) rfl))
noncomputable def rpdec {R:Type} (lf:Nat) (s0:By) (k0:Int→LL→Option R) (k1:Int→LL→Option R) (k2:LL→LL→Option R) (k3:LL→LL→Option R):Option R:=cond (ltI (1024:Int) (↑(List.length s0):Int)) (k0 3 []) (rpdec_l0 lf lf s0 0 0 (fun _=>k0 4 []) (fun s'0 cut'1=>rpdec_l1 lf lf s'0 cut'1 0 [] (fun s'2 cut'3 l'4=>cond (ltI (256:Int) (↑(List.length l'4):Int)) (k1 3 l'4) (cond (ltI (0:Int) cut'3) (vl (wi64 (cut'3+(1:Int))) fun n'6=>rpdec_l5 lf lf s'2 n'6 l'4 (fun n'72 l'73=>k1 n'72 l'73) (fun l'74 l'75=>k2 l'74 l'75) (fun out'76 l'77=>k3 out'76 l'77) (fun l'78=>k0 0 l'78)) (rpdec_l5 lf lf s'2 cut'3 l'4 (fun n'79 l'80=>k1 n'79 l'80) (fun l'81 l'82=>k2 l'81 l'82) (fun out'83 l'84=>k3 out'83 l'84) (fun l'85=>k0 0 l'85))))))
theorem rpdec_ev (d:Nat) (s0:By):evC (c_rpdec lf) (d+1) σ yh 151 [.s (.str s0)] [] s=rpdec lf s0 (fun r0 l1=>some (.tup [.fl 0,.s (.int .i64 r0)],[.arr true 3 1 l1],s)) (fun r0 l1=>some (.tup [.fl 1,.s (.int .i64 r0)],[.arr true 3 1 l1,.arr true 3 1 []],s)) (fun l0 l1=>some (.tup [.fl 2,.s (.int .i64 (3:Int))],[.arr true 3 1 l0,.arr false 3 1 l1,.arr true 3 1 []],s)) (fun r0 l1=>some (.tup [.s (.sl false false 1 r0),.s (.int .i64 (0:Int))],[.arr true 3 1 l1],s)):=by
 refine (evC_eq (fn:=Tryz.f151) (by kernel_rfl) (by kernel_rfl) (by kernel_rfl)).trans ?_
 generalize evC (c_rpdec lf) d=cl
 unfold rpdec;exact (Eq.trans (by kernel_rfl) (cond_congr rfl ((rpdec_l0_eq lf cl yh s (blkK 0 (seqK (c_rpdec lf) cl yh (cd [1,1,1,1] b_rpdec) (retK (c_rpdec lf) Tryz.f151))) lf s0 0 0).trans (congr (congr rfl (funext fun _=>(by kernel_rfl))) (funext fun s'0=>(funext fun cut'1=>(Eq.trans (by kernel_rfl) ((rpdec_l1_eq lf cl yh s (blkK 2 (seqK (c_rpdec lf) cl yh (cd [1,1,1,1,1,1] b_rpdec) (retK (c_rpdec lf) Tryz.f151))) lf s'0 cut'1 0 []).trans (congr rfl (funext fun s'2=>(funext fun cut'3=>(funext fun l'4=>(Eq.trans (by kernel_rfl) (cond_congr rfl (cond_congr (vl_congr fun n'6=>((rpdec_l5_eq lf cl yh s (blkK 4 (seqK (c_rpdec lf) cl yh (cd [1,1,1,1,1,1,1,1,1,1,1,1] b_rpdec) (retK (c_rpdec lf) Tryz.f151))) lf s'2 n'6 l'4).trans (congr (congr (congr (congr rfl (funext fun n'72=>(funext fun l'73=>(by kernel_rfl)))) (funext fun l'74=>(funext fun l'75=>(by kernel_rfl)))) (funext fun out'76=>(funext fun l'77=>(by kernel_rfl)))) (funext fun l'78=>(by kernel_rfl))))) ((rpdec_l5_eq lf cl yh s (blkK 4 (seqK (c_rpdec lf) cl yh (cd [1,1,1,1,1,1,1,1,1,1,1,1] b_rpdec) (retK (c_rpdec lf) Tryz.f151))) lf s'2 cut'3 l'4).trans (congr (congr (congr (congr rfl (funext fun n'79=>(funext fun l'80=>(by kernel_rfl)))) (funext fun l'81=>(funext fun l'82=>(by kernel_rfl)))) (funext fun out'83=>(funext fun l'84=>(by kernel_rfl)))) (funext fun l'85=>(by kernel_rfl)))))))))))))))))))
noncomputable def rpts_l0f {R:Type} (lf n:Nat) (self:By→Int→Int→LL→Option R) (s0:By) (i1 v2:Int) (l3:LL) (k0:By→Int→Int→LL→Option R):Option R:=k0 s0 i1 v2 l3
noncomputable def rpts_l0 {R:Type} (lf n:Nat) (s0:By) (i1 v2:Int) (l3:LL) (k0:By→Int→Int→LL→Option R):Option R:=recN (α:=By→Int→Int→LL→Option R) (fun _ _ _ _=>none) (fun n self s0 i1 v2 l3=>rpts_l0f lf n self s0 i1 v2 l3 k0) n s0 i1 v2 l3
theorem rpts_l0_s {R:Type} (lf n:Nat) (s0:By) (i1 v2:Int) (l3:LL) (k0:By→Int→Int→LL→Option R):rpts_l0 lf (n+1) s0 i1 v2 l3 k0=rpts_l0f lf n (fun s0 i1 v2 l3=>rpts_l0 lf n s0 i1 v2 l3 k0) s0 i1 v2 l3 k0:=rfl
noncomputable def rpts_j0 {R:Type} (lf:Nat) (s0:By) (i1 b2:Int) (l4:LL) (k0:LL→Option R) (k1:By→Int→LL→Option R):Option R:=vl (wi64 ((↑(List.length s0):Int)-i1)) fun n'1=>cond (ltI n'1 (1:Int)) (k0 l4) (rpts_l0 lf lf s0 i1 b2 l4 (fun s'2 i'3 v'4 l'5=>cond (ltI v'4 (0:Int)) (k0 l'5) (cond (not (ptI v'4)) (k0 l'5) (cond (roomy ((List.length l'5)+1)) (k1 s'2 (wi64 (i'3+(1:Int))) (l'5++[[(SV.int .i64 v'4)]])) (none)))))
noncomputable def rpts_j1 {R:Type} (s0:By) (i1 b2:Int) (b3:Bool) (l4:LL) (k0:By→Int→Int→Int→Int→LL→Option R) (k1:LL→Option R):Option R:=cond b3 (vl (wi64 (b2-(224:Int))) fun n'11=>k0 s0 i1 3 n'11 2048 l4) (cond (not (ltI b2 (240:Int))) (cond (ltI b2 (245:Int)) (vl (wi64 (b2-(240:Int))) fun n'12=>k0 s0 i1 4 n'12 65536 l4) (k1 l4)) (k1 l4))
noncomputable def rpts_j2 {R:Type} (s0:By) (i1 b2:Int) (b3:Bool) (l4:LL) (k0:By→Int→Int→Int→Int→LL→Option R) (k1:LL→Option R):Option R:=cond b3 (vl (wi64 (b2-(192:Int))) fun n'10=>k0 s0 i1 2 n'10 128 l4) (cond (not (ltI b2 (224:Int))) (rpts_j1 s0 i1 b2 (ltI b2 (240:Int)) l4 (fun s'13 i'14 n'15 v'16 least'17 l'18=>k0 s'13 i'14 n'15 v'16 least'17 l'18) (fun l'19=>k1 l'19)) (rpts_j1 s0 i1 b2 false l4 (fun s'20 i'21 n'22 v'23 least'24 l'25=>k0 s'20 i'21 n'22 v'23 least'24 l'25) (fun l'26=>k1 l'26)))
noncomputable def rpts_l1f {R:Type} (lf n:Nat) (self:By→Int→Int→Int→Int→Int→LL→Option R) (s0:By) (i1 n2 v3 least4 kk5:Int) (l6:LL) (k0:LL→Option R) (k1:By→Int→Int→Int→Int→LL→Option R):Option R:=cond (ltI kk5 n2) (cond (inR (wi64 (i1+kk5)) (List.length s0)) (vl (bAt s0 (wi64 (i1+kk5))) fun n'37=>cond (ltI (wi64 n'37) (128:Int)) (k0 l6) (cond (ltI (191:Int) (wi64 n'37)) (k0 l6) (vl (wi64 ((wi64 (v3*(64:Int)))+(wi64 n'37))) fun n'38=>vl (wi64 (n'38-(128:Int))) fun n'39=>self s0 i1 n2 n'39 least4 (wi64 (kk5+(1:Int))) l6))) (none)) (k1 s0 i1 n2 v3 least4 l6)
noncomputable def rpts_l1 {R:Type} (lf n:Nat) (s0:By) (i1 n2 v3 least4 kk5:Int) (l6:LL) (k0:LL→Option R) (k1:By→Int→Int→Int→Int→LL→Option R):Option R:=recN (α:=By→Int→Int→Int→Int→Int→LL→Option R) (fun _ _ _ _ _ _ _=>none) (fun n self s0 i1 n2 v3 least4 kk5 l6=>rpts_l1f lf n self s0 i1 n2 v3 least4 kk5 l6 k0 k1) n s0 i1 n2 v3 least4 kk5 l6
theorem rpts_l1_s {R:Type} (lf n:Nat) (s0:By) (i1 n2 v3 least4 kk5:Int) (l6:LL) (k0:LL→Option R) (k1:By→Int→Int→Int→Int→LL→Option R):rpts_l1 lf (n+1) s0 i1 n2 v3 least4 kk5 l6 k0 k1=rpts_l1f lf n (fun s0 i1 n2 v3 least4 kk5 l6=>rpts_l1 lf n s0 i1 n2 v3 least4 kk5 l6 k0 k1) s0 i1 n2 v3 least4 kk5 l6 k0 k1:=rfl
noncomputable def rpts_j3 {R:Type} (lf:Nat) (s0:By) (i1 n2 v3 least4:Int) (l5:LL) (k0:LL→Option R) (k1:By→Int→LL→Option R):Option R:=vl (wi64 ((↑(List.length s0):Int)-i1)) fun n'35=>cond (ltI n'35 n2) (k0 l5) (rpts_l1 lf lf s0 i1 n2 v3 least4 1 l5 (fun l'40=>k0 l'40) (fun s'41 i'42 n'43 v'44 least'45 l'46=>cond (ltI v'44 least'45) (k0 l'46) (cond (not (ptI v'44)) (k0 l'46) (cond (roomy ((List.length l'46)+1)) (k1 s'41 (wi64 (i'42+n'43)) (l'46++[[(SV.int .i64 v'44)]])) (none)))))
noncomputable def rpts_l2f {R:Type} (lf n:Nat) (self:By→Int→LL→Option R) (s0:By) (i1:Int) (l2:LL) (k0:LL→Option R) (k1:LL→Option R):Option R:=cond (ltI i1 (↑(List.length s0):Int)) (cond (inR i1 (List.length s0)) (cond (ltI (wi64 (bAt s0 i1)) (128:Int)) (rpts_j0 lf s0 i1 (wi64 (bAt s0 i1)) l2 (fun l'6=>k0 l'6) (fun s'7 i'8 l'9=>self s'7 i'8 l'9)) (cond (not (ltI (wi64 (bAt s0 i1)) (194:Int))) (rpts_j2 s0 i1 (wi64 (bAt s0 i1)) (ltI (wi64 (bAt s0 i1)) (224:Int)) l2 (fun s'27 i'28 n'29 v'30 least'31 l'32=>rpts_j3 lf s'27 i'28 n'29 v'30 least'31 l'32 (fun l'47=>k0 l'47) (fun s'48 i'49 l'50=>self s'48 i'49 l'50)) (fun l'33=>k0 l'33)) (rpts_j2 s0 i1 (wi64 (bAt s0 i1)) false l2 (fun s'51 i'52 n'53 v'54 least'55 l'56=>rpts_j3 lf s'51 i'52 n'53 v'54 least'55 l'56 (fun l'58=>k0 l'58) (fun s'59 i'60 l'61=>self s'59 i'60 l'61)) (fun l'57=>k0 l'57)))) (none)) (k1 l2)
noncomputable def rpts_l2 {R:Type} (lf n:Nat) (s0:By) (i1:Int) (l2:LL) (k0:LL→Option R) (k1:LL→Option R):Option R:=recN (α:=By→Int→LL→Option R) (fun _ _ _=>none) (fun n self s0 i1 l2=>rpts_l2f lf n self s0 i1 l2 k0 k1) n s0 i1 l2
theorem rpts_l2_s {R:Type} (lf n:Nat) (s0:By) (i1:Int) (l2:LL) (k0:LL→Option R) (k1:LL→Option R):rpts_l2 lf (n+1) s0 i1 l2 k0 k1=rpts_l2f lf n (fun s0 i1 l2=>rpts_l2 lf n s0 i1 l2 k0 k1) s0 i1 l2 k0 k1:=rfl
noncomputable def rpts {R:Type} (lf:Nat) (s0:By) (k0:LL→Option R) (k1:LL→Option R):Option R:=rpts_l2 lf lf s0 0 [] (fun l'62=>k0 l'62) (fun l'63=>k1 l'63)
noncomputable abbrev b_rprop:Code:=bodyOf Tryz.f111
noncomputable def c_rprop (lf:Nat):Cfg:=mkCfg lf [111] (lookK [(6,[0,1,0,1,0])]) [(151,X_rpdec),(110,X_renc)] (lookK [(12,[2]),(11,[0,4,1,0]),(7,[0,2,1,0]),(10,[2]),(9,[0,2,1,0,34]),(8,[0,2,1,0]),(6,[0,2,1,0,12]),(5,[0,2,1,0]),(4,[0,2,1]),(3,[2]),(2,[0,2,11]),(1,[0,2,0]),(0,[0])]) [110] (lookK [(0,[0,2,1]),(1,[0,2,1,0])]) (some [2]) [] [] []
noncomputable def rprop_l0f {R:Type} (lf n:Nat) (self:By→Bool→LL→Bool→Int→Option R) (rest0:By) (p_z1:Bool) (p2:LL) (other3:Bool) (i4:Int) (k0:Unit→Option R) (k1:By→Bool→LL→Bool→Option R):Option R:=cond (ltI i4 (↑(List.length p2):Int)) (cond other3 (cond (inR i4 (List.length p2)) (cond (okE tI64 p2 (Int.toNat i4) 0) (cond (not (ltI (gE p2 (Int.toNat i4) 0) (65:Int))) (cond (inR i4 (List.length p2)) (cond (okE tI64 p2 (Int.toNat i4) 0) (cond (not (ltI (90:Int) (gE p2 (Int.toNat i4) 0))) (k0 ()) (self rest0 p_z1 p2 true (wi64 (i4+(1:Int))))) (none)) (none)) (self rest0 p_z1 p2 true (wi64 (i4+(1:Int))))) (none)) (none)) (cond (inR i4 (List.length p2)) (cond (okE tI64 p2 (Int.toNat i4) 0) (cond (inR i4 (List.length p2)) (cond (okE tI64 p2 (Int.toNat i4) 0) (cond (not (ltI (gE p2 (Int.toNat i4) 0) (65:Int))) (cond (inR i4 (List.length p2)) (cond (okE tI64 p2 (Int.toNat i4) 0) (cond (not (ltI (90:Int) (gE p2 (Int.toNat i4) 0))) (k0 ()) (self rest0 p_z1 p2 (not (ltI (gE p2 (Int.toNat i4) 0) (128:Int))) (wi64 (i4+(1:Int))))) (none)) (none)) (self rest0 p_z1 p2 (not (ltI (gE p2 (Int.toNat i4) 0) (128:Int))) (wi64 (i4+(1:Int))))) (none)) (none)) (none)) (none))) (k1 rest0 p_z1 p2 other3)
noncomputable def rprop_l0 {R:Type} (lf n:Nat) (rest0:By) (p_z1:Bool) (p2:LL) (other3:Bool) (i4:Int) (k0:Unit→Option R) (k1:By→Bool→LL→Bool→Option R):Option R:=recN (α:=By→Bool→LL→Bool→Int→Option R) (fun _ _ _ _ _=>none) (fun n self rest0 p_z1 p2 other3 i4=>rprop_l0f lf n self rest0 p_z1 p2 other3 i4 k0 k1) n rest0 p_z1 p2 other3 i4
theorem rprop_l0_s {R:Type} (lf n:Nat) (rest0:By) (p_z1:Bool) (p2:LL) (other3:Bool) (i4:Int) (k0:Unit→Option R) (k1:By→Bool→LL→Bool→Option R):rprop_l0 lf (n+1) rest0 p_z1 p2 other3 i4 k0 k1=rprop_l0f lf n (fun rest0 p_z1 p2 other3 i4=>rprop_l0 lf n rest0 p_z1 p2 other3 i4 k0 k1) rest0 p_z1 p2 other3 i4 k0 k1:=rfl
theorem rprop_l0_eq (n:Nat) (rest0:By) (p_z1:Bool) (p2:LL) (other3:Bool) (i4:Int):loopK 0 ((c_rprop lf).keep 6) (bd (c_rprop lf) cl yh (cd [1,1,1,1,0,1,0,0] b_rprop)) n ⟨gp [(0,.s (.str rest0)),(2,.s (.sl p_z1 p_z1 1 p2)),(1,.s (.bool other3)),(0,.s (.int .i64 i4))] 50,[],s⟩ k =
 rprop_l0 lf n rest0 p_z1 p2 other3 i4 (fun _=>k .ret ⟨gp [(2,.s (.bool false))] 54,[],s⟩) (fun rest0 p_z1 p2 other3=>k (.exit 0) ⟨gp [(0,.s (.str rest0)),(2,.s (.sl p_z1 p_z1 1 p2)),(1,.s (.bool other3))] 51,[],s⟩):=by
 induction n generalizing rest0 p_z1 p2 other3 i4 with
 | zero=>rfl
 | succ n ih=>rw [rprop_l0_s];unfold rprop_l0f;exact (Eq.trans (by kernel_rfl) (cond_congr (cond_congr (cond_congr (cond_congr (cond_congr (cond_congr (cond_congr (cond_congr rfl (ih rest0 p_z1 p2 true (wi64 (i4+(1:Int))))) rfl) rfl) (ih rest0 p_z1 p2 true (wi64 (i4+(1:Int))))) rfl) rfl) (cond_congr (cond_congr (cond_congr (cond_congr (cond_congr (cond_congr (cond_congr (cond_congr rfl (ih rest0 p_z1 p2 (not (ltI (gE p2 (Int.toNat i4) 0) (128:Int))) (wi64 (i4+(1:Int))))) rfl) rfl) (ih rest0 p_z1 p2 (not (ltI (gE p2 (Int.toNat i4) 0) (128:Int))) (wi64 (i4+(1:Int))))) rfl) rfl) rfl) rfl)) rfl))
noncomputable def rprop {R:Type} (lf:Nat) (rest0:By) (k0:Bool→Option R):Option R:=cond (small (List.length rest0)) (vl (↑((decP rest0)).2:Int) fun n'1=>cond (n'1 != (0:Int)) (k0 false) (rprop_l0 lf lf rest0 (List.isEmpty ((decP rest0)).1) (natR ((decP rest0)).1) false 0 (fun _=>k0 false) (fun rest'2 p_z'3 p'4 other'5=>cond (List.all p'4 isI64) (vl ((encI (List.map elI p'4))).1 fun s'8=>vl (↑((encI (List.map elI p'4))).2:Int) fun n'9=>cond (n'9==(0:Int)) (cond (s'8==rest'2) (k0 other'5) (k0 false)) (k0 false)) (none)))) (none)
theorem rprop_ev (d:Nat) (rest0:By):evC (c_rprop lf) (d+1) σ yh 111 [.s (.str rest0)] [] s=rprop lf rest0 (fun r0=>some (.s (.bool r0),[],s)):=by
 refine (evC_eq (fn:=Tryz.f111) (by kernel_rfl) (by kernel_rfl) (by kernel_rfl)).trans ?_
 generalize evC (c_rprop lf) d=cl
 unfold rprop;exact (Eq.trans (by kernel_rfl) (cond_congr (vl_congr fun n'1=>(cond_congr rfl ((rprop_l0_eq lf cl yh s (blkK 0 (seqK (c_rprop lf) cl yh (cd [1,1,1,1,1] b_rprop) (retK (c_rprop lf) Tryz.f111))) lf rest0 (List.isEmpty ((decP rest0)).1) (natR ((decP rest0)).1) false 0).trans (congr (congr rfl (funext fun _=>(by kernel_rfl))) (funext fun rest'2=>(funext fun p_z'3=>(funext fun p'4=>(funext fun other'5=>(by kernel_rfl))))))))) rfl))
noncomputable abbrev b_rlval:Code:=bodyOf Tryz.f59
noncomputable def c_rlval (lf:Nat):Cfg:=mkCfg lf [59] (lookK [(4,[0,1,0])]) [(111,X_rprop)] (lookK [(9,[2]),(5,[0,2]),(8,[2]),(7,[0,2,52]),(6,[0,2,0]),(4,[0,2,24]),(3,[0,2]),(2,[2]),(1,[0,23]),(0,[0])]) [111] (lookK [(0,[0]),(1,[0,2])]) (some [2]) [] [] []
noncomputable def rlval_l0f {R:Type} (lf n:Nat) (self:By→Int→Option R) (s0:By) (i1:Int) (k0:Unit→Option R) (k1:By→Option R):Option R:=cond (ltI i1 (↑(List.length s0):Int)) (cond (inR i1 (List.length s0)) (cond (not (ltI (bAt s0 i1) (97:Int))) (cond (not (ltI (122:Int) (bAt s0 i1))) (self s0 (wi64 (i1+(1:Int)))) (cond (not (ltI (bAt s0 i1) (48:Int))) (cond (not (ltI (57:Int) (bAt s0 i1))) (self s0 (wi64 (i1+(1:Int)))) (cond ((bAt s0 i1)==(45:Int)) (self s0 (wi64 (i1+(1:Int)))) (cond (not ((bAt s0 i1)==(95:Int))) (k0 ()) (self s0 (wi64 (i1+(1:Int))))))) (cond ((bAt s0 i1)==(45:Int)) (self s0 (wi64 (i1+(1:Int)))) (cond (not ((bAt s0 i1)==(95:Int))) (k0 ()) (self s0 (wi64 (i1+(1:Int)))))))) (cond (not (ltI (bAt s0 i1) (48:Int))) (cond (not (ltI (57:Int) (bAt s0 i1))) (self s0 (wi64 (i1+(1:Int)))) (cond ((bAt s0 i1)==(45:Int)) (self s0 (wi64 (i1+(1:Int)))) (cond (not ((bAt s0 i1)==(95:Int))) (k0 ()) (self s0 (wi64 (i1+(1:Int))))))) (cond ((bAt s0 i1)==(45:Int)) (self s0 (wi64 (i1+(1:Int)))) (cond (not ((bAt s0 i1)==(95:Int))) (k0 ()) (self s0 (wi64 (i1+(1:Int)))))))) (none)) (k1 s0)
noncomputable def rlval_l0 {R:Type} (lf n:Nat) (s0:By) (i1:Int) (k0:Unit→Option R) (k1:By→Option R):Option R:=recN (α:=By→Int→Option R) (fun _ _=>none) (fun n self s0 i1=>rlval_l0f lf n self s0 i1 k0 k1) n s0 i1
theorem rlval_l0_s {R:Type} (lf n:Nat) (s0:By) (i1:Int) (k0:Unit→Option R) (k1:By→Option R):rlval_l0 lf (n+1) s0 i1 k0 k1=rlval_l0f lf n (fun s0 i1=>rlval_l0 lf n s0 i1 k0 k1) s0 i1 k0 k1:=rfl
theorem rlval_l0_eq (n:Nat) (s0:By) (i1:Int):loopK 0 ((c_rlval lf).keep 4) (bd (c_rlval lf) cl yh (cd [1,1,0,1,0,0] b_rlval)) n ⟨gp [(0,.s (.str s0)),(2,.s (.int .i64 i1))] 66,[],s⟩ k =
 rlval_l0 lf n s0 i1 (fun _=>k .ret ⟨gp [(2,.s (.bool false))] 67,[],s⟩) (fun s0=>k (.exit 0) ⟨gp [(0,.s (.str s0))] 69,[],s⟩):=by
 induction n generalizing s0 i1 with
 | zero=>rfl
 | succ n ih=>rw [rlval_l0_s];unfold rlval_l0f;exact (Eq.trans (by kernel_rfl) (cond_congr (cond_congr (cond_congr (cond_congr (ih s0 (wi64 (i1+(1:Int)))) (cond_congr (cond_congr (ih s0 (wi64 (i1+(1:Int)))) (cond_congr (ih s0 (wi64 (i1+(1:Int)))) (cond_congr rfl (ih s0 (wi64 (i1+(1:Int))))))) (cond_congr (ih s0 (wi64 (i1+(1:Int)))) (cond_congr rfl (ih s0 (wi64 (i1+(1:Int)))))))) (cond_congr (cond_congr (ih s0 (wi64 (i1+(1:Int)))) (cond_congr (ih s0 (wi64 (i1+(1:Int)))) (cond_congr rfl (ih s0 (wi64 (i1+(1:Int))))))) (cond_congr (ih s0 (wi64 (i1+(1:Int)))) (cond_congr rfl (ih s0 (wi64 (i1+(1:Int)))))))) rfl) rfl))
noncomputable def rlval {R:Type} (lf:Nat) (s0:By) (k0:Bool→Option R):Option R:=cond (s0==([]:List UInt8)) (k0 false) (cond (ltI (63:Int) (↑(List.length s0):Int)) (k0 false) (cond (inR (0:Int) (List.length s0)) (cond ((bAt s0 (0:Int))==(45:Int)) (k0 false) (vl (wi64 ((↑(List.length s0):Int)-(1:Int))) fun n'1=>cond (inR n'1 (List.length s0)) (cond ((bAt s0 n'1)==(45:Int)) (k0 false) (rlval_l0 lf lf s0 0 (fun _=>k0 false) (fun s'2=>cond (ltI (↑(List.length s'2):Int) (4:Int)) (k0 true) (cond (sub3 (0:Int) (4:Int) (List.length s'2)) (vl (cut s'2 (0:Int) (4:Int)) fun s'3=>cond (not (s'3==(([120,110,45,45]:List UInt8)))) (k0 true) (cond (sub3 (4:Int) (↑(List.length s'2):Int) (List.length s'2)) (vl (cut s'2 (4:Int) (↑(List.length s'2):Int)) fun s'4=>cond (small (List.length s'4)) (k0 (properB s'4)) (none)) (none))) (none))))) (none))) (none)))
theorem rlval_ev (d:Nat) (s0:By):evC (c_rlval lf) (d+1) σ yh 59 [.s (.str s0)] [] s=rlval lf s0 (fun r0=>some (.s (.bool r0),[],s)):=by
 refine (evC_eq (fn:=Tryz.f59) (by kernel_rfl) (by kernel_rfl) (by kernel_rfl)).trans ?_
 generalize evC (c_rlval lf) d=cl
 unfold rlval;exact (Eq.trans (by kernel_rfl) (cond_congr rfl (cond_congr rfl (cond_congr (cond_congr rfl (vl_congr fun n'1=>(cond_congr (cond_congr rfl ((rlval_l0_eq lf cl yh s (blkK 0 (seqK (c_rlval lf) cl yh (cd [1,1,1] b_rlval) (retK (c_rlval lf) Tryz.f59))) lf s0 0).trans (congr (congr rfl (funext fun _=>(by kernel_rfl))) (funext fun s'2=>(by kernel_rfl))))) rfl))) rfl))))
end
end Go.Proofs.YtokehocipgepnaaGreatDoor.E
namespace Go.Proofs.YtokehocipgepnaaGreatDoor.E
open Go Go.Proofs
set_option linter.unusedVariables false
set_option linter.unusedSimpArgs false
theorem rpoint_spec {R:Type} {k0:Bool→Option R} (n:Int):rpoint LF n k0=k0 (ptI n):=by
 unfold rpoint
 by_cases h:n<0
 ·rw [ltI_t h]
  have:ptI n=false:=by
   cases n with
   | ofNat m=>exact absurd h (by simp)
   | negSucc m=>rfl
  rw [this];rfl
 ·obtain ⟨m,rfl⟩:=Int.eq_ofNat_of_zero_le (show 0≤n by omega)
  rw [ltI_f (by omega),ptI_nat]
  unfold isPt
  by_cases h1:1114111<m
  ·rw [ltI_t (by omega)]
   have:Nat.ble m 1114111=false:=by rw [Bool.eq_false_iff,ne_eq,Nat.ble_eq];omega
   rw [this];rfl
  ·rw [ltI_f (by omega)]
   have:Nat.ble m 1114111=true:=by rw [Nat.ble_eq];omega
   rw [this]
   by_cases h2:m<55296
   ·rw [ltI_t (by omega)]
    have:Nat.blt m 55296=true:=by rw [Nat.blt_eq];omega
    rw [this];rfl
   ·rw [ltI_f (by omega)]
    have e:Nat.blt m 55296=false:=by rw [Bool.eq_false_iff,ne_eq,Nat.blt_eq];omega
    rw [e]
    simp only [Bool.not_false,cond_true,cond_false,Bool.false_or,Bool.true_and]
    congr 1
theorem radapt_loop {R:Type} {k0:Int→Int→Option R}:∀ (d n k:Nat),d<2305843009213693952→d<n→k+d≤4611686018427387904→
  ∃ d' k',d'≤455∧k'≤k+d∧adGo d k=k'+36*d' / (d'+38)∧radapt_l0 LF n (d:Int) (k:Int) k0=k0 (d':Int) (k':Int):=by
 intro d
 induction d using Nat.strongRecOn with
 | _ d ih=>
  intro n k hd hn hk
  obtain ⟨n,rfl⟩:∃ m,n=m+1:=⟨n-1,by omega⟩
  rw [radapt_l0_s]
  unfold radapt_l0f
  by_cases h:455<d
  ·obtain ⟨d',k',h1,h2,h3,h4⟩:=ih (d / 35) (by omega) n (k+36) (by omega) (by omega) (by omega)
   refine ⟨d',k',h1,by omega,by rw [adGo_big h];exact h3,?_⟩
   have e:Int.tdiv (d:Int) 35=((d / 35:Nat):Int):=tdiv_nat d 35
   have e1:wi64 ((d / 35:Nat):Int)=((d / 35:Nat):Int):=wi64_id (by omega) (by omega)
   have e2:wi64 ((k:Int)+36)=((k+36:Nat):Int):=by rw [wi64_id (by omega) (by omega)];rfl
   rw [ltI_t (by omega)]
   simp only [cond_true,vl,e,e1,e2]
   exact h4
  ·refine ⟨d,k,by omega,by omega,adGo_small h,?_⟩
   rw [ltI_f (by omega)]
   rfl
theorem radapt_spec {R:Type} {k0:Int→Option R} (d c:Int) (f:Bool) (h0:ltN d 1152921504606846976=true) (h1:ltN c 1000000=true) (h2:ltI 0 c=true):radapt LF d c f k0=k0 (adapt d.toNat c.toNat f:Nat):=by
 obtain ⟨hd0,hd1⟩:=ltN_iff.1 h0
 obtain ⟨hc0,hc1⟩:=ltN_iff.1 h1
 obtain ⟨d,rfl⟩:=Int.eq_ofNat_of_zero_le hd0
 obtain ⟨c,rfl⟩:=Int.eq_ofNat_of_zero_le hc0
 have hc:=ltI_iff.1 h2
 have hLF:=LF_big
 have key:∀ x:Nat,x<1152921504606846976→radapt_j0 LF (x:Int) (c:Int) k0=k0 ((adGo (x+x / c) 0:Nat):Int):=by
  intro x hx
  have hxc:x / c≤x:=Nat.div_le_self _ _
  unfold radapt_j0
  have e1:Int.tdiv (x:Int) (c:Int)=((x / c:Nat):Int):=tdiv_nat x c
  generalize x / c=q at *
  have e2:wi64 (q:Int)=(q:Int):=wi64_id (by omega) (by omega)
  have e3:wi64 ((x:Int)+(q:Int))=((x+q:Nat):Int):=by rw [wi64_id (by omega) (by omega)];rfl
  rw [show ((c:Int) != 0)=true by simp;omega]
  simp only [cond_true,vl,e1,e2,e3]
  obtain ⟨d',k',g1,g2,g3,g4⟩:=radapt_loop (R:=R) (k0:=fun delta'7 k'8=>vl (wi64 ((36)*delta'7)) fun n'9=>vl (wi64 (delta'7+(38))) fun n'10=>cond (n'10 != (0)) (vl (wi64 (Int.tdiv n'9 n'10)) fun n'11=>k0 (wi64 (k'8+n'11))) none) (x+q) LF 0 (by omega) (by omega) (by omega)
  refine Eq.trans g4 ?_
  have hq:36*d' / (d'+38)≤36*d':=Nat.div_le_self _ _
  have f1:wi64 (36*(d':Int))=((36*d':Nat):Int):=by rw [wi64_id (by omega) (by omega)];rfl
  have f2:wi64 ((d':Int)+38)=((d'+38:Nat):Int):=by rw [wi64_id (by omega) (by omega)];rfl
  have f3:Int.tdiv ((36*d':Nat):Int) ((d'+38:Nat):Int)=((36*d' / (d'+38):Nat):Int):=tdiv_nat _ _
  have f4:wi64 ((36*d' / (d'+38):Nat):Int)=((36*d' / (d'+38):Nat):Int):=wi64_id (by omega) (by omega)
  have f5:wi64 ((k':Int)+((36*d' / (d'+38):Nat):Int))=((k'+36*d' / (d'+38):Nat):Int):=by rw [wi64_id (by omega) (by omega)];rfl
  simp only [vl,f1,f2,f3,f4,f5]
  rw [show (((d'+38:Nat):Int) != 0)=true by simp;omega,g3]
  rfl
 unfold radapt adapt
 rw [Int.toNat_natCast,Int.toNat_natCast]
 cases f with
 | true=>
  have e1:Int.tdiv (d:Int) 700=((d / 700:Nat):Int):=tdiv_nat d 700
  have e2:wi64 ((d / 700:Nat):Int)=((d / 700:Nat):Int):=wi64_id (by omega) (by omega)
  simp only [cond_true,vl,e1,e2,if_true]
  exact key _ (by omega)
 | false=>
  have e1:Int.tdiv (d:Int) 2=((d / 2:Nat):Int):=tdiv_nat d 2
  have e2:wi64 ((d / 2:Nat):Int)=((d / 2:Nat):Int):=wi64_id (by omega) (by omega)
  simp only [cond_false,vl,e1,e2,Bool.false_eq_true,if_false]
  exact key _ (by omega)
theorem rdg36_spec {R:Type} {k0:Int→Option R} (d:Int) (h0:ltN d 36=true):rdg36 LF d k0=k0 ((dig36 d.toNat).toNat:Nat):=by
 obtain ⟨hd0,hd1⟩:=ltN_iff.1 h0
 obtain ⟨d,rfl⟩:=Int.eq_ofNat_of_zero_le hd0
 unfold rdg36
 rw [Int.toNat_natCast,dig36_nat (by omega)]
 by_cases h:d<26
 ·rw [ltI_t (by omega),if_pos h]
  simp only [cond_true,vl]
  congr 1
  rw [wi64_id (by omega) (by omega),wu8_id (by omega) (by omega)]
  rfl
 ·rw [ltI_f (by omega),if_neg h]
  simp only [cond_false,vl]
  congr 1
  rw [wi64_id (n:=48+(d:Int)) (by omega) (by omega),wi64_id (by omega) (by omega),wu8_id (by omega) (by omega)]
  omega
theorem rval_spec {R:Type} {k0:Int→Option R} (b:Int) (h0:inR b 256=true):rval LF b k0=k0 (val36I (u8n b)):=by
 simp only [inR,Bool.and_eq_true,decide_eq_true_eq] at h0
 have hc:b=((u8n b).toNat:Int):=by
  unfold u8n
  simp
  omega
 generalize u8n b=c at *
 subst hc
 have hbt:=c.toNat_lt
 unfold rval val36I
 simp only [rval_j1,rval_j0,vl]
 rcases val36_cases c with ⟨h1,h2,e⟩ | ⟨h1,h2,e⟩ | ⟨h1,h2,e⟩ | ⟨h1,h2,h3,e⟩
 ·have e2:wi64 (wu8 ((c.toNat:Int)-97))=((c.toNat-97:Nat):Int):=by
   rw [wu8_id (by omega) (by omega),wi64_id (by omega) (by omega)];omega
  simp (disch:=omega) only [ltI_t,ltI_f,Bool.not_true,Bool.not_false,cond_false,cond_true,e2,e]
 ·have e2:wi64 (wu8 ((c.toNat:Int)-65))=((c.toNat-65:Nat):Int):=by
   rw [wu8_id (by omega) (by omega),wi64_id (by omega) (by omega)];omega
  simp (disch:=omega) only [ltI_t,ltI_f,Bool.not_true,Bool.not_false,cond_false,cond_true,e2,e]
 ·have e2:wi64 (wi64 (wu8 ((c.toNat:Int)-48))+26)=((c.toNat-22:Nat):Int):=by
   rw [wu8_id (by omega) (by omega),wi64_id (n:=(c.toNat:Int)-48) (by omega) (by omega),wi64_id (by omega) (by omega)];omega
  simp (disch:=omega) only [ltI_t,ltI_f,Bool.not_true,Bool.not_false,cond_false,cond_true,e2,e]
 ·rw [e]
  by_cases c1:c.toNat<48
  ·simp (disch:=omega) only [ltI_t,ltI_f,Bool.not_true,Bool.not_false,cond_false,cond_true]
  ·by_cases c2:c.toNat<65
   ·simp (disch:=omega) only [ltI_t,ltI_f,Bool.not_true,Bool.not_false,cond_false,cond_true]
   ·by_cases c3:c.toNat<97
    ·simp (disch:=omega) only [ltI_t,ltI_f,Bool.not_true,Bool.not_false,cond_false,cond_true]
    ·simp (disch:=omega) only [ltI_t,ltI_f,Bool.not_true,Bool.not_false,cond_false,cond_true]
theorem rthr_spec {R:Type} {k0:Int→Option R} (k b:Int) (h0:ltN k 10000000000=true) (h1:ltN b 1000000=true):rthr LF k b k0=k0 (thrI (Int.mul 36 k) b):=by
 obtain ⟨k1,k2⟩:=ltN_iff.1 h0
 obtain ⟨b1,b2⟩:=ltN_iff.1 h1
 unfold rthr thrI
 have e1:wi64 (k+1)=k+1:=wi64_id (by omega) (by omega)
 have e2:wi64 ((36:Int)*(k+1))=36*(k+1):=wi64_id (by omega) (by omega)
 have e3:wi64 (36*(k+1)-b)=36*(k+1)-b:=wi64_id (by omega) (by omega)
 simp only [vl,e1,e2,e3]
 congr 1
 have e4:Int.mul 36 k=36*k:=rfl
 rw [e4]
 split<;>split<;>omega
theorem renc_num (z t:Bool) (pts:LL) (done basic nn delta i:Int) (b:Nat) (hb:b<1000000):∀ (r q k n:Nat) (l:LL),q<10 ^ r→q<1152921504606846976→k+r≤1000→r<n→l.length+r≤200000→
  ∃ (q':Nat) (pre:By),q'<36∧encNum q k b=pre++[dig36 q']∧∀ (R:Type) (k0:Bool→Bool→LL→Int→Int→Int→Int→Int→Int→LL→Option R),renc_l2 LF n z t pts done basic nn delta (b:Int) i (q:Int) (k:Int) l k0=k0 z t pts done basic nn delta i (q':Int) (l++pre.map u8el):=by
 have hthr:∀ k:Nat,thrI (Int.mul 36 (k:Int)) (b:Int)=(thr k b:Int):=fun k=>by
  rw [show Int.mul 36 (k:Int)=((36*k:Nat):Int) from rfl,thrI_nat]
 have fin:∀ (q k n:Nat) (l:LL),q<thr k b→k≤1000→∃ (q':Nat) (pre:By),q'<36∧encNum q k b=pre++[dig36 q']∧∀ (R:Type) (k0:Bool→Bool→LL→Int→Int→Int→Int→Int→Int→LL→Option R),renc_l2 LF (n+1) z t pts done basic nn delta (b:Int) i (q:Int) (k:Int) l k0=k0 z t pts done basic nn delta i (q':Int) (l++pre.map u8el):=by
  intro q k n l hq hk
  have ht:=thr_range k b
  refine ⟨q,[],by omega,by rw [encNum_lt hq];rfl,fun R k0=>?_⟩
  rw [renc_l2_s]
  unfold renc_l2f
  have hq':ltI (q:Int) (thr k b:Int)=true:=ltI_t (by omega)
  rw [ltN_t (by omega) (by omega),ltN_t (by omega) (by omega),hthr]
  simp only [vl,cond_true,hq',Bool.not_true,cond_false,List.map_nil,List.append_nil]
 intro r
 induction r with
 | zero=>
  intro q k n l h _ hk hn hl
  have ht:=thr_range k b
  obtain ⟨n,rfl⟩:∃ m,n=m+1:=⟨n-1,by omega⟩
  exact fin q k n l (by simp at h;omega) (by omega)
 | succ r ih=>
  intro q k n l h hq60 hk hn hl
  have ht:=thr_range k b
  obtain ⟨n,rfl⟩:∃ m,n=m+1:=⟨n-1,by omega⟩
  by_cases hq:q<thr k b
  ·exact fin q k n l hq (by omega)
  ·have hd:(q-thr k b) / (36-thr k b)<10 ^ r:=div_ten (by omega) (by rw [Nat.pow_succ] at h;omega)
   have hd2:(q-thr k b) / (36-thr k b)≤q:=Nat.le_trans (Nat.div_le_self _ _) (by omega)
   have hm2:(q-thr k b) % (36-thr k b)<36-thr k b:=Nat.mod_lt _ (by omega)
   obtain ⟨q',pre,e0,e1,e⟩:=ih ((q-thr k b) / (36-thr k b)) (k+1) n (l++[u8el (dig36 (thr k b+(q-thr k b) % (36-thr k b)))]) hd (by omega) (by omega) (by omega) (by rw [List.length_append,List.length_singleton];omega)
   refine ⟨q',dig36 (thr k b+(q-thr k b) % (36-thr k b))::pre,e0,by rw [encNum_ge hq,e1];rfl,fun R k0=>?_⟩
   rw [renc_l2_s]
   unfold renc_l2f
   have c1:wi64 ((q:Int)-(thr k b:Int))=((q-thr k b:Nat):Int):=by rw [wi64_id (by omega) (by omega)];omega
   have c2:wi64 ((36:Int)-(thr k b:Int))=((36-thr k b:Nat):Int):=by rw [wi64_id (by omega) (by omega)];omega
   have c3:Int.tmod ((q-thr k b:Nat):Int) ((36-thr k b:Nat):Int)=(((q-thr k b) % (36-thr k b):Nat):Int):=tmod_nat _ _
   have c4:Int.tdiv ((q-thr k b:Nat):Int) ((36-thr k b:Nat):Int)=(((q-thr k b) / (36-thr k b):Nat):Int):=tdiv_nat _ _
   have c7:((((36-thr k b:Nat):Int)) != 0)=true:=by rw [bne_iff_ne];omega
   have c8:wi64 ((k:Int)+1)=((k+1:Nat):Int):=by rw [wi64_id (by omega) (by omega)];rfl
   have hq':ltI (q:Int) (thr k b:Int)=false:=ltI_f (by omega)
   rw [ltN_t (by omega) (by omega),ltN_t (by omega) (by omega),hthr]
   simp only [vl,hq',c1,c2,c3,c4,c7,c8,cond_true,cond_false,Bool.not_false]
   generalize hA:(q-thr k b) / (36-thr k b)=A at *
   generalize hB:(q-thr k b) % (36-thr k b)=B at *
   have c5:wi64 ((thr k b:Int)+(B:Int))=((thr k b+B:Nat):Int):=by rw [wi64_id (by omega) (by omega)];rfl
   have c6:wi64 (A:Int)=(A:Int):=wi64_id (by omega) (by omega)
   rw [c5,c6,ltN_t (by omega) (by omega),roomy_of (by omega),Int.toNat_natCast]
   refine Eq.trans (e R k0) ?_
   simp [List.append_assoc,u8el]
theorem renc_in (z t:Bool) (pts:List Nat) (basic m:Nat) (hm:m≤1114112) (hl:pts.length≤256):∀ (r i n:Nat) (s:EncS),i+r=pts.length→r<n→s.delta+r≤1000000000000→s.bias≤500→s.out.length+20*r≤90000→s.done+r≤1000→basic≤256→
  (∀ (R:Type) (k0:Bool→Bool→LL→Int→Int→Int→Int→Int→LL→Option R),renc_l3 LF n z t (natE pts) (s.done:Int) (basic:Int) (m:Int) (s.delta:Int) (s.bias:Int) (i:Int) (s.out.map u8el) k0 =
   k0 z t (natE pts) ((encIn m basic (pts.drop i) s).done:Int) (basic:Int) (m:Int) ((encIn m basic (pts.drop i) s).delta:Int) ((encIn m basic (pts.drop i) s).bias:Int) ((encIn m basic (pts.drop i) s).out.map u8el))∧
  (encIn m basic (pts.drop i) s).bias≤500∧(encIn m basic (pts.drop i) s).out.length≤s.out.length+20*(pts.drop i).countP (· == m)∧(encIn m basic (pts.drop i) s).done=s.done+(pts.drop i).countP (· == m)∧
  (encIn m basic (pts.drop i) s).delta≤(if 0<(pts.drop i).countP (· == m) then r else s.delta+r):=by
 have hLF:=LF_big
 intro r
 induction r with
 | zero=>
  intro i n s hi hn h1 h2 h3 h4 hb
  obtain ⟨n,rfl⟩:∃ m,n=m+1:=⟨n-1,by omega⟩
  rw [List.drop_of_length_le (by omega)]
  refine ⟨fun R k0=>?_,h2,by simp [encIn],by simp [encIn],by simp [encIn]⟩
  rw [renc_l3_s]
  unfold renc_l3f
  rw [natE_len,ltI_f (by omega)]
  rfl
 | succ r ih=>
  intro i n s hi hn h1 h2 h3 h4 hb
  obtain ⟨n,rfl⟩:∃ m,n=m+1:=⟨n-1,by omega⟩
  rw [drop_nat pts i (by omega)]
  have hg:=gE_nat pts i (by omega)
  have ok:=okE_nat (l:=pts) (i:=i) (by omega)
  have hin:inR (i:Int) (natE pts).length=true:=inR_t (by omega) (by rw [natE_len];omega)
  have hlt:ltI (i:Int) ((natE pts).length:Int)=true:=ltI_t (by rw [natE_len];omega)
  generalize pts.getD i 0=p at *
  have e1:wi64 ((i:Int)+1)=((i+1:Nat):Int):=by rw [wi64_id (by omega) (by omega)];rfl
  have e2:wi64 ((s.delta:Int)+1)=((s.delta+1:Nat):Int):=by rw [wi64_id (by omega) (by omega)];rfl
  have e3:wi64 ((s.done:Int)+1)=((s.done+1:Nat):Int):=by rw [wi64_id (by omega) (by omega)];rfl
  by_cases hp:p<m
  ·have hne:(p==m)=false:=by rw [beq_eq_false_iff_ne];omega
   have hs:encIn m basic (p::pts.drop (i+1)) s=encIn m basic (pts.drop (i+1)) { s with delta:=s.delta+1 }:=by rw [encIn,if_pos hp]
   obtain ⟨q1,q2,q3,q4,q5⟩:=ih (i+1) n { s with delta:=s.delta+1 } (by omega) (by omega) (by simp only;omega) h2 (by simp only;omega) (by simp only;omega) hb
   rw [hs,List.countP_cons_of_neg (by rw [hne];simp)]
   refine ⟨fun R k0=>?_,q2,q3,q4,?_⟩
   ·rw [renc_l3_s]
    unfold renc_l3f
    rw [Int.toNat_natCast]
    simp only [hin,hlt,ok,cond_true,vl,hg,e1,e2]
    rw [ltI_t (by omega),cond_true,show ((p:Int) != (m:Int))=true by rw [bne_iff_ne];omega,cond_true]
    exact q1 R k0
   ·simp only at q5
    split at q5<;>split<;>omega
  ·by_cases hq:p=m
   ·subst hq
    have hn20:=encNum_20 (q:=s.delta) (k:=0) (b:=s.bias) (by omega)
    have had:=adapt_le s.delta (s.done+1) (s.done==basic) (by omega)
    have hs:encIn p basic (p::pts.drop (i+1)) s=encIn p basic (pts.drop (i+1)) { delta:=0,bias:=adapt s.delta (s.done+1) (s.done==basic),done:=s.done+1,out:=s.out++encNum s.delta 0 s.bias }:=by rw [encIn,if_neg hp,if_pos rfl]
    obtain ⟨q1,q2,q3,q4,q5⟩:=ih (i+1) n { delta:=0,bias:=adapt s.delta (s.done+1) (s.done==basic),done:=s.done+1,out:=s.out++encNum s.delta 0 s.bias } (by omega) (by omega) (by simp only;omega) had (by simp only [List.length_append];omega) (by simp only;omega) hb
    obtain ⟨q',pre,f1,f2,f3⟩:=renc_num z t (natE pts) (s.done:Int) (basic:Int) (p:Int) (s.delta:Int) (i:Int) s.bias (by omega) 19 s.delta 0 LF (s.out.map u8el) (by omega) (by omega) (by omega) (by omega) (by rw [List.length_map];omega)
    rw [hs,List.countP_cons_of_pos (by simp)]
    refine ⟨fun R k0=>?_,q2,?_,?_,?_⟩
    ·rw [renc_l3_s]
     unfold renc_l3f
     have hbeq:((s.done:Int)==(basic:Int))=(s.done==basic):=by
      rw [Bool.eq_iff_iff,beq_iff_eq,beq_iff_eq];omega
     rw [Int.toNat_natCast]
     simp only [hin,hlt,ok,cond_true,vl,hg,e1,e3]
     rw [ltI_f (by omega),cond_false,bne_self_eq_false,cond_false]
     refine Eq.trans (f3 R _) ?_
     have hpl:pre.length+1=(encNum s.delta 0 s.bias).length:=by rw [f2];simp
     rw [ltN_t (by omega) (by omega),Int.toNat_natCast,roomy_of (by rw [List.length_append,List.length_map,List.length_map];omega)]
     simp only [vl,cond_true,e1,e3]
     rw [ltN_t (by omega) (by omega),ltN_t (by omega) (by omega),ltI_t (by omega),hbeq]
     simp only [cond_true,Int.toNat_natCast]
     have hrow:s.out.map u8el++pre.map u8el++[[SV.int .u8 (((dig36 q').toNat:Nat):Int)]]=(s.out++encNum s.delta 0 s.bias).map u8el:=by
      rw [f2,List.map_append,List.map_append,List.append_assoc];rfl
     rw [hrow]
     exact q1 R k0
    ·simp only [List.length_append] at q3;omega
    ·simp only at q4;omega
    ·simp only at q5
     rw [if_pos (by omega)]
     split at q5<;>omega
   ·have hne:(p==m)=false:=by rw [beq_eq_false_iff_ne];omega
    have hs:encIn m basic (p::pts.drop (i+1)) s=encIn m basic (pts.drop (i+1)) s:=by rw [encIn,if_neg hp,if_neg hq]
    obtain ⟨q1,q2,q3,q4,q5⟩:=ih (i+1) n s (by omega) (by omega) (by omega) h2 (by omega) (by omega) hb
    rw [hs,List.countP_cons_of_neg (by rw [hne];simp)]
    refine ⟨fun R k0=>?_,q2,q3,q4,?_⟩
    ·rw [renc_l3_s]
     unfold renc_l3f
     rw [Int.toNat_natCast]
     simp only [hin,hlt,ok,cond_true,vl,hg,e1]
     rw [ltI_f (by omega),cond_false,show ((p:Int) != (m:Int))=true by rw [bne_iff_ne];omega,cond_true]
     exact q1 R k0
    ·split at q5<;>split<;>omega
theorem renc_least {R:Type} {k0:Bool→Bool→LL→Int→Int→Int→Int→Int→Int→LL→Option R} (z t:Bool) (pts:List Nat) (hl:pts.length≤256) (n0:Nat) (basic delta bias done:Int) (l:LL):∀ (r i n m:Nat),i+r=pts.length→r<n→
  renc_l1 LF n z t (natE pts) done basic (n0:Int) delta bias (m:Int) (i:Int) l k0=k0 z t (natE pts) done basic (n0:Int) delta bias ((leastP n0 (pts.drop i) m:Nat):Int) l:=by
 intro r
 induction r with
 | zero=>
  intro i n m hi hn
  obtain ⟨n,rfl⟩:∃ m,n=m+1:=⟨n-1,by omega⟩
  rw [renc_l1_s]
  unfold renc_l1f
  rw [natE_len,ltI_f (by omega),List.drop_of_length_le (by omega)]
  rfl
 | succ r ih=>
  intro i n m hi hn
  obtain ⟨n,rfl⟩:∃ m,n=m+1:=⟨n-1,by omega⟩
  have hg:=gE_nat pts i (by omega)
  have ok:=okE_nat (l:=pts) (i:=i) (by omega)
  have hin:inR (i:Int) (natE pts).length=true:=inR_t (by omega) (by rw [natE_len];omega)
  have hlt:ltI (i:Int) ((natE pts).length:Int)=true:=ltI_t (by rw [natE_len];omega)
  rw [renc_l1_s,drop_nat pts i (by omega)]
  unfold renc_l1f
  generalize pts.getD i 0=p at *
  have e1:wi64 ((i:Int)+1)=((i+1:Nat):Int):=by rw [wi64_id (by omega) (by omega)];rfl
  rw [Int.toNat_natCast]
  simp only [hin,hlt,ok,cond_true,vl,hg,e1,leastP]
  by_cases h:n0≤p
  ·rw [if_pos h,ltI_f (by omega),Bool.not_false,cond_true]
   have:(if (p:Int)<(m:Int) then (p:Int) else (m:Int))=((min m p:Nat):Int):=by split<;>omega
   rw [this]
   exact ih (i+1) n (min m p) (by omega) (by omega)
  ·rw [if_neg h,ltI_t (by omega),Bool.not_true,cond_false]
   exact ih (i+1) n m (by omega) (by omega)
theorem renc_out (z t:Bool) (pts:List Nat) (basic:Nat) (hl:pts.length≤256) (hb:basic≤256) (hall:∀ p∈pts,p≤1114111):∀ (f n n':Nat) (s:EncS),s.done=pts.countP (fun p=>decide (p<n))→pts.length≤s.done+f→f<n'→s.delta≤300→s.bias≤500→s.out.length+20*(pts.length-s.done)≤80000→n≤1114112→
  ∀ (R:Type) (k0:LL→Option R),renc_l4 LF n' z t (natE pts) (s.done:Int) (basic:Int) (n:Int) (s.delta:Int) (s.bias:Int) (s.out.map u8el) k0=k0 ((encOut pts basic f n s).out.map u8el):=by
 intro f
 have hLF:=LF_big
 induction f with
 | zero=>
  intro n n' s hd hf hn h1 h2 h3 h4 R k0
  obtain ⟨n',rfl⟩:∃ m,n'=m+1:=⟨n'-1,by omega⟩
  rw [renc_l4_s]
  unfold renc_l4f
  rw [natE_len,ltI_f (by omega)]
  rfl
 | succ f ih=>
  intro n n' s hd hf hn h1 h2 h3 h4 R k0
  obtain ⟨n',rfl⟩:∃ m,n'=m+1:=⟨n'-1,by omega⟩
  rw [renc_l4_s]
  unfold renc_l4f
  rw [natE_len]
  have hcl:pts.countP (fun p=>decide (p<n))≤pts.length:=List.countP_le_length
  by_cases hlt:s.done<pts.length
  ·obtain ⟨p0,hp0,hp1⟩:=cnt_lt (n:=n) (l:=pts) (by omega)
   obtain ⟨g1,g2,g3⟩:=leastP_spec n pts 1114112
   obtain ⟨b1,b2,b3⟩:=leastP_spec n pts 1073741824
   have g4:=g3 p0 hp0 hp1
   have b4:=b3 p0 hp0 hp1
   have g5:=hall p0 hp0
   have hmem:leastP n pts 1114112∈pts∧n≤leastP n pts 1114112:=by
    rcases g1 with g1 | g1
    ·omega
    ·exact g1
   have bmem:leastP n pts 1073741824∈pts∧n≤leastP n pts 1073741824:=by
    rcases b1 with b1 | b1
    ·omega
    ·exact b1
   have heq:leastP n pts 1073741824=leastP n pts 1114112:=by
    have x1:=b3 _ hmem.1 hmem.2
    have x2:=g3 _ bmem.1 bmem.2
    omega
   have he:encOut pts basic (f+1) n s=encOut pts basic f (leastP n pts 1114112+1) { encIn (leastP n pts 1114112) basic pts { s with delta:=s.delta+(leastP n pts 1114112-n)*(s.done+1) } with delta:=(encIn (leastP n pts 1114112) basic pts { s with delta:=s.delta+(leastP n pts 1114112-n)*(s.done+1) }).delta+1 }:=by
    rw [encOut,if_pos hlt]
   rw [he,ltI_t (by omega),cond_true]
   have hleast:=fun (K:Bool→Bool→LL→Int→Int→Int→Int→Int→Int→LL→Option R)=>renc_least (k0:=K) z t pts hl n (basic:Int) (s.delta:Int) (s.bias:Int) (s.done:Int) (s.out.map u8el) pts.length 0 LF 1073741824 (by omega) (by omega)
   rw [List.drop_zero,heq] at hleast
   refine Eq.trans (hleast _) ?_
   clear hleast heq b1 b2 b3 b4 bmem
   generalize leastP n pts 1114112=m at *
   have hmul:(m-n)*(s.done+1)≤1114112*256:=Nat.mul_le_mul (by omega) (by omega)
   have e1:wi64 ((s.done:Int)+1)=((s.done+1:Nat):Int):=by rw [wi64_id (by omega) (by omega)];rfl
   have e2:wi64 ((m:Int)-(n:Int))=((m-n:Nat):Int):=by rw [wi64_id (by omega) (by omega)];omega
   have e3:wi64 (((m-n:Nat):Int)*((s.done+1:Nat):Int))=(((m-n)*(s.done+1):Nat):Int):=by
    rw [←Int.natCast_mul]
    exact wi64_id (by omega) (by omega)
   have e4:wi64 ((s.delta:Int)+(((m-n)*(s.done+1):Nat):Int))=((s.delta+(m-n)*(s.done+1):Nat):Int):=by
    rw [wi64_id (by omega) (by omega)];rfl
   simp only [vl,e1,e2,e3,e4]
   have hin:=renc_in z t pts basic m (by omega) hl pts.length 0 LF { s with delta:=s.delta+(m-n)*(s.done+1) } (by omega) (by omega) (by simp only;omega) h2 (by simp only;omega) (by simp only;omega) hb
   rw [List.drop_zero] at hin
   obtain ⟨q1,q2,q3,q4,q5⟩:=hin
   refine Eq.trans (q1 R _) ?_
   have hcnt:0<pts.countP (· == m):=List.countP_pos_iff.2 ⟨m,hmem.1,by simp⟩
   rw [if_pos hcnt] at q5
   have hstep:=cnt_step hmem.2 pts g3
   generalize encIn m basic pts { s with delta:=s.delta+(m-n)*(s.done+1) } = s' at *
   simp only at q3 q4
   have e5:wi64 ((s'.delta:Int)+1)=((s'.delta+1:Nat):Int):=by rw [wi64_id (by omega) (by omega)];rfl
   have e6:wi64 ((m:Int)+1)=((m+1:Nat):Int):=by rw [wi64_id (by omega) (by omega)];rfl
   have hcl2:pts.countP (fun p=>decide (p<m+1))≤pts.length:=List.countP_le_length
   simp only [e5,e6]
   exact ih (m+1) n' { s' with delta:=s'.delta+1 } (by simp only;omega) (by simp only;omega) (by omega) (by simp only;omega) q2 (by simp only;omega) (by omega) R k0
  ·rw [ltI_f (by omega)]
   rw [encOut,if_neg hlt]
   rfl
theorem renc_basic (z t:Bool) (P:List Int) (hl:P.length≤256):∀ (r i n:Nat) (out:By),i+r=P.length→r<n→out.length+r≤1000→
  ((P.drop i).all ptI=true→∀ (R:Type) (k0:LL→Option R) (k1:Bool→Bool→LL→LL→Option R),renc_l0 LF n z t (i64E P) (i:Int) (out.map u8el) k0 k1=k1 z t (i64E P) ((out++basicI (P.drop i)).map u8el))∧
  ((P.drop i).all ptI=false→∃ l,∀ (R:Type) (k0:LL→Option R) (k1:Bool→Bool→LL→LL→Option R),renc_l0 LF n z t (i64E P) (i:Int) (out.map u8el) k0 k1=k0 l):=by
 intro r
 induction r with
 | zero=>
  intro i n out hi hn ho
  obtain ⟨n,rfl⟩:∃ m,n=m+1:=⟨n-1,by omega⟩
  rw [List.drop_of_length_le (by omega)]
  refine ⟨fun _ R k0 k1=>?_,fun h=>(by cases h)⟩
  rw [renc_l0_s]
  unfold renc_l0f
  rw [i64E_len,ltI_f (by omega)]
  simp [basicI]
 | succ r ih=>
  intro i n out hi hn ho
  obtain ⟨n,rfl⟩:∃ m,n=m+1:=⟨n-1,by omega⟩
  have hg:=gE_i64 P i (by omega)
  have ok:=okE_i64 (l:=P) (i:=i) (by omega)
  have hin:inR (i:Int) (i64E P).length=true:=inR_t (by omega) (by rw [i64E_len];omega)
  have hlt:ltI (i:Int) ((i64E P).length:Int)=true:=ltI_t (by rw [i64E_len];omega)
  rw [drop_int P i (by omega)]
  generalize P.getD i 0=x at *
  have e1:wi64 ((i:Int)+1)=((i+1:Nat):Int):=by rw [wi64_id (by omega) (by omega)];rfl
  cases hx:ptI x with
  | false=>
   refine ⟨fun h=>?_,fun _=>⟨out.map u8el,fun R k0 k1=>?_⟩⟩
   ·rw [List.all_cons,hx] at h;cases h
   ·rw [renc_l0_s]
    unfold renc_l0f
    rw [Int.toNat_natCast]
    simp only [hin,hlt,ok,cond_true,vl,hg,hx,Bool.not_false]
  | true=>
   obtain ⟨p0,p1⟩:=ptI_nonneg hx
   rw [List.all_cons,hx,Bool.true_and]
   by_cases h128:x<128
   ·have hbs:basicI (x::P.drop (i+1))=UInt8.ofNat x.toNat::basicI (P.drop (i+1)):=by
     unfold basicI;rw [List.filter_cons_of_pos (by simpa using h128)];rfl
    have hrow:out.map u8el++[[SV.int .u8 (wu8 x)]]=(out++[UInt8.ofNat x.toNat]).map u8el:=by rw [u8_row x p0 h128];simp
    obtain ⟨q1,q2⟩:=ih (i+1) n (out++[UInt8.ofNat x.toNat]) (by omega) (by omega) (by simp;omega)
    have step:∀ (R:Type) (k0:LL→Option R) (k1:Bool→Bool→LL→LL→Option R),renc_l0 LF (n+1) z t (i64E P) (i:Int) (out.map u8el) k0 k1=renc_l0 LF n z t (i64E P) ((i+1:Nat):Int) ((out++[UInt8.ofNat x.toNat]).map u8el) k0 k1:=by
     intro R k0 k1
     rw [renc_l0_s]
     unfold renc_l0f
     rw [Int.toNat_natCast]
     simp only [hin,hlt,ok,cond_true,vl,hg,hx,Bool.not_true,cond_false,e1]
     rw [ltI_t h128,List.length_map,roomy_of (by omega),hrow]
     rfl
    refine ⟨fun h R k0 k1=>?_,fun h=>?_⟩
    ·rw [step,q1 h,hbs];simp
    ·obtain ⟨l,e⟩:=q2 h
     exact ⟨l,fun R k0 k1=>by rw [step];exact e R k0 k1⟩
   ·have hbs:basicI (x::P.drop (i+1))=basicI (P.drop (i+1)):=by
     unfold basicI;rw [List.filter_cons_of_neg (by simpa using h128)]
    obtain ⟨q1,q2⟩:=ih (i+1) n out (by omega) (by omega) (by omega)
    have step:∀ (R:Type) (k0:LL→Option R) (k1:Bool→Bool→LL→LL→Option R),renc_l0 LF (n+1) z t (i64E P) (i:Int) (out.map u8el) k0 k1=renc_l0 LF n z t (i64E P) ((i+1:Nat):Int) (out.map u8el) k0 k1:=by
     intro R k0 k1
     rw [renc_l0_s]
     unfold renc_l0f
     rw [Int.toNat_natCast]
     simp only [hin,hlt,ok,cond_true,vl,hg,hx,Bool.not_true,cond_false,e1]
     rw [ltI_f (by omega)]
     rfl
    refine ⟨fun h R k0 k1=>?_,fun h=>?_⟩
    ·rw [step,q1 h,hbs]
    ·obtain ⟨l,e⟩:=q2 h
     exact ⟨l,fun R k0 k1=>by rw [step];exact e R k0 k1⟩
theorem renc_cases (z t:Bool) (P:List Int):(encI P=([],3)∧∀ (R:Type) (k0:Unit→Option R) (k1:By→Int→LL→Option R),renc LF z t (i64E P) k0 k1=k0 ())∨
  (∃ l,∀ (R:Type) (k0:Unit→Option R) (k1:By→Int→LL→Option R),renc LF z t (i64E P) k0 k1=k1 (encI P).1 ((encI P).2:Nat) l):=by
 have hLF:=LF_big
 by_cases hl:256<P.length
 ·refine .inl ⟨by unfold encI;rw [if_pos hl],fun R k0 k1=>?_⟩
  unfold renc
  rw [i64E_len,ltI_t (by omega)]
  rfl
 ·right
  obtain ⟨q1,q2⟩:=renc_basic z t P (by omega) P.length 0 LF [] (by omega) (by omega) (by simp;omega)
  rw [List.drop_zero] at q1 q2
  cases ha:P.all ptI with
  | false=>
   obtain ⟨l,e⟩:=q2 ha
   refine ⟨l,fun R k0 k1=>?_⟩
   unfold renc
   rw [i64E_len,ltI_f (by omega),cond_false]
   refine Eq.trans (e R _ _) ?_
   unfold encI
   rw [if_neg hl,ha]
   rfl
  | true=>
   obtain ⟨pts,rfl,hp1,hp2⟩:=pts_nat ha
   rw [List.length_map] at hl
   have hen:encI (pts.map fun n:Nat=>(n:Int))=encP pts:=by
    unfold encI
    rw [List.length_map,if_neg hl,ha]
    simp [Function.comp_def]
   have hbl:=basicB_len pts
   have hbc:pts.countP (fun p=>decide (p<128))≤pts.length:=List.countP_le_length
   have main:∀ (o:By),o.length≤300→∀ (R:Type) (k0:LL→Option R),renc_l4 LF LF z t (natE pts) ((basicB pts).length:Int) ((basicB pts).length:Int) 128 0 72 (o.map u8el) k0=k0 ((encOut pts (basicB pts).length 256 128 { delta:=0,bias:=72,done:=(basicB pts).length,out:=o }).out.map u8el):=by
    intro o ho R k0
    exact renc_out z t pts (basicB pts).length (by omega) (by omega) hp2 256 128 LF { delta:=0,bias:=72,done:=(basicB pts).length,out:=o } hbl (by simp only;omega) (by omega) (by simp) (by simp) (by simp only;omega) (by omega) R k0
   have he2:encP pts=((encOut pts (basicB pts).length 256 128 { delta:=0,bias:=72,done:=(basicB pts).length,out:=if (basicB pts).isEmpty then [] else basicB pts++[45] }).out,0):=by
    unfold encP
    rw [if_neg hl,hp1]
    rfl
   refine ⟨(encP pts).1.map u8el,fun R k0 k1=>?_⟩
   unfold renc
   rw [i64E_len,List.length_map,ltI_f (by omega),cond_false,hen]
   have q1':=q1 ha R
   refine Eq.trans (q1' _ _) ?_
   rw [List.nil_append,basicI_nat,natE_i64E]
   simp only [vl,List.length_map]
   by_cases hbe:basicB pts=[]
   ·rw [hbe,List.length_nil,ltI_f (by omega),cond_false]
    have mm:=main [] (by simp) R
    rw [hbe,List.length_nil] at mm
    rw [List.map_nil] at mm
    refine Eq.trans (mm _) ?_
    rw [hbe] at he2
    rw [he2]
    simp only [List.isEmpty_nil,if_true,List.length_nil]
    rw [all_isU8,map_elU8]
    rfl
   ·have hpos:0<(basicB pts).length:=List.length_pos_iff.2 hbe
    rw [ltI_t (by omega),cond_true,roomy_of (by omega),cond_true]
    have hrow:(basicB pts).map u8el++[[SV.int .u8 (45:Int)]]=(basicB pts++[45]).map u8el:=by rw [List.map_append];rfl
    rw [hrow]
    refine Eq.trans (main (basicB pts++[45]) (by simp;omega) R _) ?_
    rw [he2,if_neg (by simpa using hbe)]
    rw [all_isU8,map_elU8]
    rfl
theorem renc_sp (z t:Bool) (p:LL) (h0:p.all isI64=true):∃ r H,renc LF z t p (fun _=>rv (.tup [.s (.str []),.s (.int .i64 3)]) []) (fun r0 r1 l=>rv (.tup [.s (.str r0),.s (.int .i64 r1)]) [.arr true 5 1 l])=rv r H∧
  r.stab [0,0] H = .tup [.s (.str (encI (p.map elI)).1),.s (.int .i64 ((encI (p.map elI)).2:Nat))]:=by
 obtain ⟨P,rfl⟩:=i64_row h0
 rw [elI_i64E]
 rcases renc_cases z t P with ⟨h1,h2⟩ | ⟨l,h2⟩
 ·exact ⟨_,_,h2 _ _ _,by rw [h1];rfl⟩
 ·exact ⟨_,_,h2 _ _ _,rfl⟩
theorem rpdec_scan {R:Type} {k0:Unit→Option R} {k1:By→Int→Option R} (s:By) (hs:s.length≤1000000):∀ (r i n cut:Nat),i+r=s.length→r<n→
  rpdec_l0 LF n s (cut:Int) (i:Int) k0 k1=if (s.drop i).any (fun b=>Nat.ble 128 b.toNat) then k0 () else k1 s ((if 45∈s.drop i then i+lastDash (s.drop i) else cut:Nat):Int):=by
 intro r
 induction r with
 | zero=>
  intro i n cut hi hn
  obtain ⟨n,rfl⟩:∃ m,n=m+1:=⟨n-1,by omega⟩
  rw [rpdec_l0_s]
  unfold rpdec_l0f
  rw [ltI_f (by omega),List.drop_of_length_le (by omega)]
  rfl
 | succ r ih=>
  intro i n cut hi hn
  obtain ⟨n,rfl⟩:∃ m,n=m+1:=⟨n-1,by omega⟩
  rw [rpdec_l0_s]
  unfold rpdec_l0f
  have e1:wi64 ((i:Int)+1)=((i+1:Nat):Int):=by rw [wi64_id (by omega) (by omega)];rfl
  rw [ltI_t (by omega),inR_t (by omega) (by omega),bAt_nat,drop_cons s i (by omega),e1,List.any_cons]
  simp only [cond_true]
  generalize s.getD i 0=b
  by_cases h:128≤b.toNat
  ·rw [ltI_f (by omega),Nat.ble_eq_true_of_le h]
   rfl
  ·have:Nat.ble 128 b.toNat=false:=by rw [Bool.eq_false_iff,ne_eq,Nat.ble_eq];exact h
   rw [ltI_t (by omega),this,Bool.false_or,Bool.not_true,cond_false]
   have hb:((b.toNat:Int)==45)=(b==45):=u8_eqn b 45 (by omega)
   rw [hb]
   by_cases h45:b=45
   ·subst h45
    rw [show ((45:UInt8)==45)=true from rfl,cond_true]
    refine (ih (i+1) n i (by omega) (by omega)).trans ?_
    have hm:(45:UInt8)∈45::s.drop (i+1):=by simp
    rw [if_pos hm]
    have:(if (45:UInt8)∈s.drop (i+1) then i+1+lastDash (s.drop (i+1)) else i)=i+lastDash (45::s.drop (i+1)):=by
     rw [lastDash]
     split<;>omega
    rw [this]
   ·rw [show (b==45)=false from beq_eq_false_iff_ne.2 h45,cond_false]
    refine (ih (i+1) n cut (by omega) (by omega)).trans ?_
    have hm:((45:UInt8)∈b::s.drop (i+1))↔((45:UInt8)∈s.drop (i+1)):=by simp [Ne.symm h45]
    have:(if (45:UInt8)∈s.drop (i+1) then i+1+lastDash (s.drop (i+1)) else cut)=(if (45:UInt8)∈b::s.drop (i+1) then i+lastDash (b::s.drop (i+1)) else cut):=by
     by_cases q:(45:UInt8)∈s.drop (i+1)
     ·rw [if_pos q,if_pos (hm.2 q),lastDash,if_pos q];omega
     ·rw [if_neg q,if_neg (fun h=>q (hm.1 h))]
    rw [this]
theorem rpdec_copy {R:Type} {k0:By→Int→LL→Option R} (s:By) (hs:s.length≤1000000) (k:Nat) (hk:k≤s.length):∀ (r i n:Nat) (l:List Nat),i+r=k→r<n→l.length=i→
  rpdec_l1 LF n s (k:Int) (i:Int) (natE l) k0=k0 s (k:Int) (natE (l++((s.take k).drop i).map (·.toNat))):=by
 intro r
 induction r with
 | zero=>
  intro i n l hi hn hl
  obtain ⟨n,rfl⟩:∃ m,n=m+1:=⟨n-1,by omega⟩
  rw [rpdec_l1_s]
  unfold rpdec_l1f
  rw [ltI_f (by omega),List.drop_of_length_le (by rw [List.length_take];omega)]
  simp
 | succ r ih=>
  intro i n l hi hn hl
  obtain ⟨n,rfl⟩:∃ m,n=m+1:=⟨n-1,by omega⟩
  rw [rpdec_l1_s]
  unfold rpdec_l1f
  have e1:wi64 ((i:Int)+1)=((i+1:Nat):Int):=by rw [wi64_id (by omega) (by omega)];rfl
  have hd:(s.take k).drop i=s.getD i 0::(s.take k).drop (i+1):=by
   rw [drop_cons (s.take k) i (by rw [List.length_take];omega)]
   congr 1
   rw [List.getD_eq_getElem?_getD,List.getD_eq_getElem?_getD,List.getElem?_take_of_lt (by omega)]
  rw [ltI_t (by omega),inR_t (by omega) (by omega),bAt_nat,hd,natE_len,roomy_of (by omega),e1]
  simp only [cond_true]
  generalize s.getD i 0=b
  have hb:=b.toNat_lt
  have e2:wi64 (b.toNat:Int)=(b.toNat:Int):=wi64_id (by omega) (by omega)
  have hrow:natE l++[[SV.int .i64 (wi64 (b.toNat:Int))]]=natE (l++[b.toNat]):=by rw [e2,natE_app];rfl
  rw [hrow]
  refine (ih (i+1) n _ (by omega) (by omega) (by simp;omega)).trans ?_
  simp
theorem rpdec_num2 (s:By) (hs:s.length≤1000000) (out:LL) (n3 b old:Int) (l:LL) (hb0:0≤b) (hb1:b<1000000):∀ (r p n k:Nat) (i w:Int),p+r=s.length→r<n→0≤i→i≤1099511627776→0≤w→w≤1099511627776→k+r≤10000000→
  ((dnGo b (s.drop p) i w ((36*k:Nat):Int)).1=0→∃ p',p<p'∧p'≤s.length∧(dnGo b (s.drop p) i w ((36*k:Nat):Int)).2.1=s.drop p'∧∀ (R:Type) (k0:Int→LL→Option R) (k1:By→LL→Int→Int→Int→Int→LL→Option R),rpdec_l2 LF n s out (p:Int) n3 i b old w (k:Int) l k0 k1=k1 s out (p':Int) n3 (dnGo b (s.drop p) i w ((36*k:Nat):Int)).2.2 old l)∧
  ((dnGo b (s.drop p) i w ((36*k:Nat):Int)).1≠0→∀ (R:Type) (k0:Int→LL→Option R) (k1:By→LL→Int→Int→Int→Int→LL→Option R),rpdec_l2 LF n s out (p:Int) n3 i b old w (k:Int) l k0 k1=k0 (dnGo b (s.drop p) i w ((36*k:Nat):Int)).1 l):=by
 intro r
 induction r with
 | zero=>
  intro p n k i w hp hn hi hi1 hw hw1 hk
  obtain ⟨n,rfl⟩:∃ m,n=m+1:=⟨n-1,by omega⟩
  rw [List.drop_of_length_le (by omega)]
  refine ⟨fun h=>by simp [dnGo] at h,fun _ R k0 k1=>?_⟩
  rw [rpdec_l2_s]
  unfold rpdec_l2f
  rw [ltI_f (by omega)]
  rfl
 | succ r ih=>
  intro p n k i w hp hn hi hi1 hw hw1 hk
  obtain ⟨n,rfl⟩:∃ m,n=m+1:=⟨n-1,by omega⟩
  have hc:=drop_cons s p (by omega)
  have hbt:=bAt_nat s p
  rw [hc]
  generalize s.getD p 0=c at *
  have hv:=val36I_range c
  have ht:=thrI_range ((36*k:Nat):Int) b
  have e0:Int.mul 36 (k:Int)=((36*k:Nat):Int):=rfl
  have e6:wi64 ((p:Int)+1)=((p+1:Nat):Int):=by rw [wi64_id (by omega) (by omega)];rfl
  have e7:wi64 ((k:Int)+1)=((k+1:Nat):Int):=by rw [wi64_id (by omega) (by omega)];rfl
  have start:∀ (R:Type) (k0:Int→LL→Option R) (k1:By→LL→Int→Int→Int→Int→LL→Option R),rpdec_l2 LF (n+1) s out (p:Int) n3 i b old w (k:Int) l k0 k1 =
    cond (ltI (val36I c) 0) (k0 4 l)
     (vl (wi64 (i+(wi64 (val36I c*w)))) fun n10=>cond (ltI 1099511627776 n10) (k0 19 l)
      (cond (ltI (val36I c) (thrI ((36*k:Nat):Int) b)) (k1 s out ((p+1:Nat):Int) n3 n10 old l)
       (vl (wi64 (36-(thrI ((36*k:Nat):Int) b))) fun n13=>cond (ltI 1099511627776 (wi64 (w*n13))) (k0 19 l) (rpdec_l2 LF n s out ((p+1:Nat):Int) n3 n10 b old (wi64 (w*n13)) ((k+1:Nat):Int) l k0 k1)))):=by
   intro R k0 k1
   rw [rpdec_l2_s]
   unfold rpdec_l2f
   have hcl:=c.toNat_lt
   rw [ltI_t (by omega),inR_t (by omega) (by omega),hbt,inR_t (by omega) (by omega),u8n_nat,ltN_t (by omega) (by omega),ltN_t (by omega) (by omega),e0,e6,e7]
   rfl
  unfold dnGo
  by_cases h1:val36I c<0
  ·rw [if_pos h1]
   refine ⟨fun h=>by simp at h,fun _ R k0 k1=>?_⟩
   rw [start,ltI_t h1]
   rfl
  ·rw [if_neg h1]
   have hm:=mul_range (by omega) hv.2 hw hw1
   have e1:wi64 (val36I c*w)=val36I c*w:=wi64_id (by omega) (by omega)
   have e2:wi64 (i+val36I c*w)=i+val36I c*w:=wi64_id (by omega) (by omega)
   by_cases h2:1099511627776<i+val36I c*w
   ·rw [if_pos h2]
    refine ⟨fun h=>by simp at h,fun _ R k0 k1=>?_⟩
    rw [start,ltI_f (by omega),e1,e2]
    simp only [vl,cond_false]
    rw [ltI_t h2]
    rfl
   ·rw [if_neg h2]
    by_cases h3:val36I c<thrI ((36*k:Nat):Int) b
    ·rw [if_pos h3]
     refine ⟨fun _=>⟨p+1,by omega,by omega,rfl,fun R k0 k1=>?_⟩,fun h=>absurd rfl h⟩
     rw [start,ltI_f (by omega),e1,e2]
     simp only [vl,cond_false]
     rw [ltI_f (by omega),ltI_t h3]
     rfl
    ·rw [if_neg h3]
     have e3:wi64 (36-thrI ((36*k:Nat):Int) b)=36-thrI ((36*k:Nat):Int) b:=wi64_id (by omega) (by omega)
     have hm2:=mul_range (x:=36-thrI ((36*k:Nat):Int) b) (by omega) (by omega) hw hw1
     rw [Int.mul_comm] at hm2
     have e4:wi64 (w*(36-thrI ((36*k:Nat):Int) b))=w*(36-thrI ((36*k:Nat):Int) b):=wi64_id (by omega) (by omega)
     by_cases h4:1099511627776<w*(36-thrI ((36*k:Nat):Int) b)
     ·rw [if_pos h4]
      refine ⟨fun h=>by simp at h,fun _ R k0 k1=>?_⟩
      rw [start,ltI_f (by omega),e1,e2]
      simp only [vl,cond_false]
      rw [ltI_f (by omega),ltI_f (by omega),e3,e4,ltI_t h4]
      rfl
     ·rw [if_neg h4]
      have ek:((36*k:Nat):Int)+36=((36*(k+1):Nat):Int):=by omega
      rw [ek]
      obtain ⟨q1,q2⟩:=ih (p+1) n (k+1) (i+val36I c*w) (w*(36-thrI ((36*k:Nat):Int) b)) (by omega) (by omega) (by omega) (by omega) (by omega) (by omega) (by omega)
      have st2:∀ (R:Type) (k0:Int→LL→Option R) (k1:By→LL→Int→Int→Int→Int→LL→Option R),rpdec_l2 LF (n+1) s out (p:Int) n3 i b old w (k:Int) l k0 k1=rpdec_l2 LF n s out ((p+1:Nat):Int) n3 (i+val36I c*w) b old (w*(36-thrI ((36*k:Nat):Int) b)) ((k+1:Nat):Int) l k0 k1:=by
       intro R k0 k1
       rw [start,ltI_f (by omega),e1,e2]
       simp only [vl,cond_false]
       rw [ltI_f (by omega),ltI_f (by omega),e3,e4,ltI_f (by omega)]
       rfl
      refine ⟨fun h=>?_,fun h R k0 k1=>by rw [st2];exact q2 h R k0 k1⟩
      obtain ⟨p',g1,g2,g3,g4⟩:=q1 h
      exact ⟨p',by omega,g2,g3,fun R k0 k1=>by rw [st2];exact g4 R k0 k1⟩
theorem rpdec_num4 (s:By) (hs:s.length≤1000000) (l:LL):∀ (r p n k:Nat) (i w:Int),p+r=s.length→r<n→0≤i→i≤1099511627776→0≤w→w≤1099511627776→k+r≤10000000→
  ((dnGo 72 (s.drop p) i w ((36*k:Nat):Int)).1=0→∃ p',p<p'∧p'≤s.length∧(dnGo 72 (s.drop p) i w ((36*k:Nat):Int)).2.1=s.drop p'∧∀ (R:Type) (k0:Int→LL→Option R) (k1:By→Int→Int→LL→Option R),rpdec_l4 LF n s (p:Int) i w (k:Int) l k0 k1=k1 s (p':Int) (dnGo 72 (s.drop p) i w ((36*k:Nat):Int)).2.2 l)∧
  ((dnGo 72 (s.drop p) i w ((36*k:Nat):Int)).1≠0→∀ (R:Type) (k0:Int→LL→Option R) (k1:By→Int→Int→LL→Option R),rpdec_l4 LF n s (p:Int) i w (k:Int) l k0 k1=k0 (dnGo 72 (s.drop p) i w ((36*k:Nat):Int)).1 l):=by
 intro r
 induction r with
 | zero=>
  intro p n k i w hp hn hi hi1 hw hw1 hk
  obtain ⟨n,rfl⟩:∃ m,n=m+1:=⟨n-1,by omega⟩
  rw [List.drop_of_length_le (by omega)]
  refine ⟨fun h=>by simp [dnGo] at h,fun _ R k0 k1=>?_⟩
  rw [rpdec_l4_s]
  unfold rpdec_l4f
  rw [ltI_f (by omega)]
  rfl
 | succ r ih=>
  intro p n k i w hp hn hi hi1 hw hw1 hk
  obtain ⟨n,rfl⟩:∃ m,n=m+1:=⟨n-1,by omega⟩
  have hc:=drop_cons s p (by omega)
  have hbt:=bAt_nat s p
  rw [hc]
  generalize s.getD p 0=c at *
  have hv:=val36I_range c
  have ht:=thrI_range ((36*k:Nat):Int) 72
  have e0:Int.mul 36 (k:Int)=((36*k:Nat):Int):=rfl
  have e6:wi64 ((p:Int)+1)=((p+1:Nat):Int):=by rw [wi64_id (by omega) (by omega)];rfl
  have e7:wi64 ((k:Int)+1)=((k+1:Nat):Int):=by rw [wi64_id (by omega) (by omega)];rfl
  have start:∀ (R:Type) (k0:Int→LL→Option R) (k1:By→Int→Int→LL→Option R),rpdec_l4 LF (n+1) s (p:Int) i w (k:Int) l k0 k1 =
    cond (ltI (val36I c) 0) (k0 4 l)
     (vl (wi64 (i+(wi64 (val36I c*w)))) fun n10=>cond (ltI 1099511627776 n10) (k0 19 l)
      (cond (ltI (val36I c) (thrI ((36*k:Nat):Int) 72)) (k1 s ((p+1:Nat):Int) n10 l)
       (vl (wi64 (36-(thrI ((36*k:Nat):Int) 72))) fun n13=>cond (ltI 1099511627776 (wi64 (w*n13))) (k0 19 l) (rpdec_l4 LF n s ((p+1:Nat):Int) n10 (wi64 (w*n13)) ((k+1:Nat):Int) l k0 k1)))):=by
   intro R k0 k1
   rw [rpdec_l4_s]
   unfold rpdec_l4f
   have hcl:=c.toNat_lt
   rw [ltI_t (by omega),inR_t (by omega) (by omega),hbt,inR_t (by omega) (by omega),u8n_nat,ltN_t (by omega) (by omega),ltN_t (by omega) (by omega),e0,e6,e7]
   rfl
  unfold dnGo
  by_cases h1:val36I c<0
  ·rw [if_pos h1]
   refine ⟨fun h=>by simp at h,fun _ R k0 k1=>?_⟩
   rw [start,ltI_t h1]
   rfl
  ·rw [if_neg h1]
   have hm:=mul_range (by omega) hv.2 hw hw1
   have e1:wi64 (val36I c*w)=val36I c*w:=wi64_id (by omega) (by omega)
   have e2:wi64 (i+val36I c*w)=i+val36I c*w:=wi64_id (by omega) (by omega)
   by_cases h2:1099511627776<i+val36I c*w
   ·rw [if_pos h2]
    refine ⟨fun h=>by simp at h,fun _ R k0 k1=>?_⟩
    rw [start,ltI_f (by omega),e1,e2]
    simp only [vl,cond_false]
    rw [ltI_t h2]
    rfl
   ·rw [if_neg h2]
    by_cases h3:val36I c<thrI ((36*k:Nat):Int) 72
    ·rw [if_pos h3]
     refine ⟨fun _=>⟨p+1,by omega,by omega,rfl,fun R k0 k1=>?_⟩,fun h=>absurd rfl h⟩
     rw [start,ltI_f (by omega),e1,e2]
     simp only [vl,cond_false]
     rw [ltI_f (by omega),ltI_t h3]
     rfl
    ·rw [if_neg h3]
     have e3:wi64 (36-thrI ((36*k:Nat):Int) 72)=36-thrI ((36*k:Nat):Int) 72:=wi64_id (by omega) (by omega)
     have hm2:=mul_range (x:=36-thrI ((36*k:Nat):Int) 72) (by omega) (by omega) hw hw1
     rw [Int.mul_comm] at hm2
     have e4:wi64 (w*(36-thrI ((36*k:Nat):Int) 72))=w*(36-thrI ((36*k:Nat):Int) 72):=wi64_id (by omega) (by omega)
     by_cases h4:1099511627776<w*(36-thrI ((36*k:Nat):Int) 72)
     ·rw [if_pos h4]
      refine ⟨fun h=>by simp at h,fun _ R k0 k1=>?_⟩
      rw [start,ltI_f (by omega),e1,e2]
      simp only [vl,cond_false]
      rw [ltI_f (by omega),ltI_f (by omega),e3,e4,ltI_t h4]
      rfl
     ·rw [if_neg h4]
      have ek:((36*k:Nat):Int)+36=((36*(k+1):Nat):Int):=by omega
      rw [ek]
      obtain ⟨q1,q2⟩:=ih (p+1) n (k+1) (i+val36I c*w) (w*(36-thrI ((36*k:Nat):Int) 72)) (by omega) (by omega) (by omega) (by omega) (by omega) (by omega) (by omega)
      have st2:∀ (R:Type) (k0:Int→LL→Option R) (k1:By→Int→Int→LL→Option R),rpdec_l4 LF (n+1) s (p:Int) i w (k:Int) l k0 k1=rpdec_l4 LF n s ((p+1:Nat):Int) (i+val36I c*w) (w*(36-thrI ((36*k:Nat):Int) 72)) ((k+1:Nat):Int) l k0 k1:=by
       intro R k0 k1
       rw [start,ltI_f (by omega),e1,e2]
       simp only [vl,cond_false]
       rw [ltI_f (by omega),ltI_f (by omega),e3,e4,ltI_f (by omega)]
       rfl
      refine ⟨fun h=>?_,fun h R k0 k1=>by rw [st2];exact q2 h R k0 k1⟩
      obtain ⟨p',g1,g2,g3,g4⟩:=q1 h
      exact ⟨p',by omega,g2,g3,fun R k0 k1=>by rw [st2];exact g4 R k0 k1⟩
theorem natE_take (l:List Nat) (k:Nat):(natE l).take k=natE (l.take k):=by unfold natE;rw [List.map_take]
theorem natE_drop (l:List Nat) (k:Nat):(natE l).drop k=natE (l.drop k):=by unfold natE;rw [List.map_drop]
theorem rpdec_more (s:By) (hs:s.length≤1000000) (l:LL):∀ (r p f:Nat) (pts:List Nat) (n i b:Nat),p+r=s.length→r<f→pts.length≤256→n≤1114111→i≤1000→b≤500→
  ((decGoP (s.drop p) pts n i b false).2=0→∀ (R:Type) (k0:Int→LL→Option R) (k1 k2:LL→LL→Option R),rpdec_l3 LF f s (natE pts) (p:Int) (n:Int) (i:Int) (b:Int) l k0 k1 k2=k2 (natE (decGoP (s.drop p) pts n i b false).1) l)∧
  ((decGoP (s.drop p) pts n i b false).2≠0→(decGoP (s.drop p) pts n i b false).1=[]∧((∀ (R:Type) (k0:Int→LL→Option R) (k1 k2:LL→LL→Option R),rpdec_l3 LF f s (natE pts) (p:Int) (n:Int) (i:Int) (b:Int) l k0 k1 k2=k0 ((decGoP (s.drop p) pts n i b false).2:Nat) l)∨
   ((decGoP (s.drop p) pts n i b false).2=3∧∃ l',∀ (R:Type) (k0:Int→LL→Option R) (k1 k2:LL→LL→Option R),rpdec_l3 LF f s (natE pts) (p:Int) (n:Int) (i:Int) (b:Int) l k0 k1 k2=k1 l l'))):=by
 have hLF:=LF_big
 intro r
 induction r using Nat.strongRecOn with
 | _ r ih=>
  intro p f pts n i b hp hf h2 h3 h4 h5
  obtain ⟨f,rfl⟩:∃ m,f=m+1:=⟨f-1,by omega⟩
  by_cases hr:r=0
  ·rw [List.drop_of_length_le (by omega),decGoP_nil]
   refine ⟨fun _ R k0 k1 k2=>?_,fun h=>absurd rfl h⟩
   rw [rpdec_l3_s]
   unfold rpdec_l3f
   rw [ltI_f (by omega)]
   rfl
  ·have hne:s.drop p≠[]:=fun h=>by
    have:=congrArg List.length h
    rw [List.length_drop] at this
    simp at this
    omega
   obtain ⟨g1,g2⟩:=rpdec_num2 s hs (natE pts) (n:Int) (b:Int) (i:Int) l (by omega) (by omega) r p LF 0 (i:Int) 1 hp (by omega) (by omega) (by omega) (by omega) (by omega) (by omega)
   obtain ⟨d1,d2⟩:=dnGo_nat b (s.drop p) i 1 0
   have e36:dnGo (b:Int) (s.drop p) (i:Int) 1 ((36*0:Nat):Int)=dnGo (b:Int) (s.drop p) (i:Int) ((1:Nat):Int) ((36*0:Nat):Int):=rfl
   rw [e36] at g1 g2
   by_cases he:(decNum b (s.drop p) i 1 0).2.2=0
   ·rw [decGoP_step hne pts n i b false he]
    have d3:=d2 he
    have hz:(dnGo (b:Int) (s.drop p) (i:Int) ((1:Nat):Int) ((36*0:Nat):Int)).1=0:=by rw [d1,he];rfl
    obtain ⟨p',a1,a2,a3,a4⟩:=g1 hz
    obtain ⟨q1,q2,_⟩:=dnGo_bd (b:Int) (s.drop p) (i:Int) ((1:Nat):Int) ((36*0:Nat):Int) (by omega) (by omega) (by omega) hz
    rw [d3] at q1 q2 a3 a4
    simp only at q1 q2 a3 a4
    rw [a3]
    generalize (decNum b (s.drop p) i 1 0).1=X at *
    have el:wi64 (((natE pts).length:Int)+1)=((pts.length+1:Nat):Int):=by rw [natE_len,wi64_id (by omega) (by omega)];rfl
    have e1:wi64 ((X:Int)-(i:Int))=((X-i:Nat):Int):=by rw [wi64_id (by omega) (by omega)];omega
    have ed:Int.tdiv (X:Int) ((pts.length+1:Nat):Int)=((X / (pts.length+1):Nat):Int):=tdiv_nat _ _
    have em:Int.tmod (X:Int) ((pts.length+1:Nat):Int)=((X % (pts.length+1):Nat):Int):=tmod_nat _ _
    have hdv:X / (pts.length+1)≤X:=Nat.div_le_self _ _
    have hmod:=Nat.mod_lt X (show 0<pts.length+1 by omega)
    have had:=adapt_le (X-i) (pts.length+1) false (by omega)
    generalize hQ:X / (pts.length+1)=Q at *
    generalize hM:X % (pts.length+1)=M at *
    have e2:wi64 (Q:Int)=(Q:Int):=wi64_id (by omega) (by omega)
    have e3:wi64 ((n:Int)+(Q:Int))=((n+Q:Nat):Int):=by rw [wi64_id (by omega) (by omega)];rfl
    have e4:wi64 ((M:Int)+1)=((M+1:Nat):Int):=by rw [wi64_id (by omega) (by omega)];rfl
    have hnz:(((pts.length+1:Nat):Int) != 0)=true:=by rw [bne_iff_ne];omega
    have c1:cut (natE pts) 0 (M:Int)=natE (pts.take M):=by rw [cut_zero,Int.toNat_natCast,natE_take]
    have c2:cut (natE pts) (M:Int) ((natE pts).length:Int)=natE (pts.drop M):=by rw [cut_all,Int.toNat_natCast,natE_drop]
    have hrow:∀ N:Nat,natE (pts.take M)++[[SV.int .i64 (N:Int)]]++natE (pts.drop M)=natE (insAt pts M N):=fun N=>by
     unfold insAt
     rw [natE_app,List.append_assoc]
     rfl
    have start:∀ (R:Type) (k0:Int→LL→Option R) (k1 k2:LL→LL→Option R),rpdec_l3 LF (f+1) s (natE pts) (p:Int) (n:Int) (i:Int) (b:Int) l k0 k1 k2 =
      cond (not (isPt (n+Q))) (k0 2 l) (cond (ltI 256 ((pts.length+1:Nat):Int)) (k1 l (natE (insAt pts M (n+Q))))
       (rpdec_l3 LF f s (natE (insAt pts M (n+Q))) (p':Int) ((n+Q:Nat):Int) ((M+1:Nat):Int) ((adapt (X-i) (pts.length+1) false:Nat):Int) l k0 k1 k2)):=by
     intro R k0 k1 k2
     rw [rpdec_l3_s]
     unfold rpdec_l3f
     rw [ltI_t (by omega),cond_true]
     refine (a4 R _ _).trans ?_
     have s1:sub3 (0:Int) (M:Int) (natE pts).length=true:=sub3_t (by omega) (by omega) (by rw [natE_len];omega)
     have s2:sub3 (M:Int) ((natE pts).length:Int) (natE pts).length=true:=sub3_t (by omega) (by rw [natE_len];omega) (by omega)
     have t1:ltN ((X-i:Nat):Int) 1152921504606846976=true:=ltN_t (by omega) (by omega)
     have t2:ltN ((pts.length+1:Nat):Int) 1000000=true:=ltN_t (by omega) (by omega)
     have t3:ltI 0 ((pts.length+1:Nat):Int)=true:=ltI_t (by omega)
     have l1:(natE (pts.take M)).length=M:=by rw [natE_len,List.length_take];omega
     have l2:(natE (pts.drop M)).length=pts.length-M:=by rw [natE_len,List.length_drop]
     have r1:roomy (0+(natE (pts.take M)).length)=true:=roomy_of (by omega)
     have r2:roomy ((natE (pts.take M)).length+1)=true:=roomy_of (by omega)
     have r3:roomy ((natE (pts.take M)++[[SV.int .i64 ((n+Q:Nat):Int)]]).length+(natE (pts.drop M)).length)=true:=roomy_of (by rw [List.length_append,List.length_singleton];omega)
     have l3:(natE (insAt pts M (n+Q))).length=pts.length+1:=by rw [natE_len,insAt_len]
     simp only [vl,el,e1,ed,em,e2,e3,e4,hnz,s1,s2,t1,t2,t3,c1,c2,r1,r2,r3,hrow,l3,cond_true,Int.toNat_natCast,ptI_nat]
    cases hpt:isPt (n+Q) with
    | false=>
     rw [if_neg (by simp)]
     refine ⟨fun h=>by simp at h,fun _=>⟨rfl,.inl fun R k0 k1 k2=>?_⟩⟩
     rw [start,hpt]
     rfl
    | true=>
     rw [if_pos rfl]
     by_cases hc:256<pts.length+1
     ·rw [if_pos hc]
      refine ⟨fun h=>by simp at h,fun _=>⟨rfl,.inr ⟨rfl,natE (insAt pts M (n+Q)),fun R k0 k1 k2=>?_⟩⟩⟩
      rw [start,hpt,ltI_t (by omega)]
      rfl
     ·rw [if_neg hc]
      have hn':n+Q≤1114111:=by
       unfold isPt at hpt
       simp only [Bool.and_eq_true,Nat.ble_eq] at hpt
       exact hpt.1
      have st2:∀ (R:Type) (k0:Int→LL→Option R) (k1 k2:LL→LL→Option R),rpdec_l3 LF (f+1) s (natE pts) (p:Int) (n:Int) (i:Int) (b:Int) l k0 k1 k2=rpdec_l3 LF f s (natE (insAt pts M (n+Q))) (p':Int) ((n+Q:Nat):Int) ((M+1:Nat):Int) ((adapt (X-i) (pts.length+1) false:Nat):Int) l k0 k1 k2:=by
       intro R k0 k1 k2
       rw [start,hpt,ltI_f (by omega)]
       rfl
      obtain ⟨z1,z2⟩:=ih (s.length-p') (by omega) p' f (insAt pts M (n+Q)) (n+Q) (M+1) (adapt (X-i) (pts.length+1) false) (by omega) (by omega) (by rw [insAt_len];omega) hn' (by omega) had
      refine ⟨fun h R k0 k1 k2=>by rw [st2];exact z1 h R k0 k1 k2,fun h=>?_⟩
      obtain ⟨y1,y2⟩:=z2 h
      refine ⟨y1,?_⟩
      rcases y2 with y2 | ⟨y2,l',y3⟩
      ·exact .inl fun R k0 k1 k2=>by rw [st2];exact y2 R k0 k1 k2
      ·exact .inr ⟨y2,l',fun R k0 k1 k2=>by rw [st2];exact y3 R k0 k1 k2⟩
   ·rw [decGoP_err hne pts n i b false he]
    clear g1 d2
    refine ⟨fun h=>absurd h he,fun _=>⟨rfl,.inl fun R k0 k1 k2=>?_⟩⟩
    rw [rpdec_l3_s]
    unfold rpdec_l3f
    rw [ltI_t (by omega),cond_true]
    have hfst:=congrArg Prod.fst d1
    simp only at hfst
    refine (g2 (by rw [hfst];omega) R _ _).trans ?_
    rw [hfst]
theorem decGoP_ne:∀ (r:Nat) (s:By) (pts:List Nat) (n i b:Nat) (f:Bool),s.length≤r→0<pts.length→(decGoP s pts n i b f).2=0→(decGoP s pts n i b f).1≠[]:=by
 intro r
 induction r with
 | zero=>
  intro s pts n i b f hr hp h
  obtain rfl:=List.length_eq_zero_iff.1 (Nat.le_zero.1 hr)
  rw [decGoP_nil]
  exact List.length_pos_iff.1 hp
 | succ r ih=>
  intro s pts n i b f hr hp h
  by_cases hs:s=[]
  ·subst hs
   rw [decGoP_nil]
   exact List.length_pos_iff.1 hp
  ·by_cases he:(decNum b s i 1 0).2.2=0
   ·rw [decGoP_step hs pts n i b f he] at h ⊢
    split at h
    ·rename_i h1
     rw [if_pos h1]
     split at h
     ·simp at h
     ·rename_i h2
      rw [if_neg h2]
      have hlt:=decNum_lt b s i 1 0 he
      exact ih _ _ _ _ _ _ (by omega) (by rw [insAt_len];omega) h
    ·simp at h
   ·rw [decGoP_err hs pts n i b f he] at h
    exact absurd h he
theorem rpdec_main (s:By) (hs:s.length≤1000000) (p:Nat) (pts:List Nat) (h2:pts.length≤256) (hp:p≤s.length) :
  (s.drop p=[]∧∀ (R:Type) (k0:Int→LL→Option R) (k1 k2:LL→LL→Option R) (k3:LL→Option R),rpdec_l5 LF LF s (p:Int) (natE pts) k0 k1 k2 k3=k3 (natE pts))∨
  ((decGoP (s.drop p) pts 128 0 72 true).2=0∧(decGoP (s.drop p) pts 128 0 72 true).1≠[]∧∀ (R:Type) (k0:Int→LL→Option R) (k1 k2:LL→LL→Option R) (k3:LL→Option R),rpdec_l5 LF LF s (p:Int) (natE pts) k0 k1 k2 k3=k2 (natE (decGoP (s.drop p) pts 128 0 72 true).1) (natE pts))∨
  ((decGoP (s.drop p) pts 128 0 72 true).1=[]∧((∀ (R:Type) (k0:Int→LL→Option R) (k1 k2:LL→LL→Option R) (k3:LL→Option R),rpdec_l5 LF LF s (p:Int) (natE pts) k0 k1 k2 k3=k0 ((decGoP (s.drop p) pts 128 0 72 true).2:Nat) (natE pts))∨
   ((decGoP (s.drop p) pts 128 0 72 true).2=3∧∃ l',∀ (R:Type) (k0:Int→LL→Option R) (k1 k2:LL→LL→Option R) (k3:LL→Option R),rpdec_l5 LF LF s (p:Int) (natE pts) k0 k1 k2 k3=k1 (natE pts) l'))):=by
 have hLF:=LF_big
 obtain ⟨f,hf⟩:∃ m,LF=m+1:=⟨LF-1,by omega⟩
 by_cases hr:s.length≤p
 ·refine .inl ⟨List.drop_of_length_le hr,fun R k0 k1 k2 k3=>?_⟩
  have e:rpdec_l5 LF LF s (p:Int) (natE pts) k0 k1 k2 k3=rpdec_l5 LF (f+1) s (p:Int) (natE pts) k0 k1 k2 k3:=by rw [←hf]
  rw [e,rpdec_l5_s]
  unfold rpdec_l5f
  rw [ltI_f (by omega)]
  rfl
 ·right
  have hne:s.drop p≠[]:=fun h=>by
   have:=congrArg List.length h
   rw [List.length_drop] at this
   simp at this
   omega
  obtain ⟨g1,g2⟩:=rpdec_num4 s hs (natE pts) (s.length-p) p LF 0 0 1 (by omega) (by omega) (by omega) (by omega) (by omega) (by omega) (by omega)
  obtain ⟨d1,d2⟩:=dnGo_nat 72 (s.drop p) 0 1 0
  have e36:dnGo 72 (s.drop p) 0 1 ((36*0:Nat):Int)=dnGo ((72:Nat):Int) (s.drop p) ((0:Nat):Int) ((1:Nat):Int) ((36*0:Nat):Int):=rfl
  rw [e36] at g1 g2
  by_cases he:(decNum 72 (s.drop p) 0 1 0).2.2=0
  ·rw [decGoP_step hne pts 128 0 72 true he]
   have d3:=d2 he
   have hz:(dnGo ((72:Nat):Int) (s.drop p) ((0:Nat):Int) ((1:Nat):Int) ((36*0:Nat):Int)).1=0:=by
    have hfst:=congrArg Prod.fst d1
    simp only at hfst
    rw [hfst,he];rfl
   obtain ⟨p',a1,a2,a3,a4⟩:=g1 hz
   obtain ⟨q1,q2,_⟩:=dnGo_bd ((72:Nat):Int) (s.drop p) ((0:Nat):Int) ((1:Nat):Int) ((36*0:Nat):Int) (by omega) (by omega) (by omega) hz
   rw [d3] at q1 q2 a3 a4
   simp only at q1 q2 a3 a4
   clear g1 g2 d1 d2 d3 hz e36
   rw [a3]
   generalize (decNum 72 (s.drop p) 0 1 0).1=X at *
   have el:wi64 (((natE pts).length:Int)+1)=((pts.length+1:Nat):Int):=by rw [natE_len,wi64_id (by omega) (by omega)];rfl
   have e1:wi64 ((X:Int)-0)=(X:Int):=by rw [wi64_id (by omega) (by omega)];omega
   have ed:Int.tdiv (X:Int) ((pts.length+1:Nat):Int)=((X / (pts.length+1):Nat):Int):=tdiv_nat _ _
   have em:Int.tmod (X:Int) ((pts.length+1:Nat):Int)=((X % (pts.length+1):Nat):Int):=tmod_nat _ _
   have hdv:X / (pts.length+1)≤X:=Nat.div_le_self _ _
   have hmod:=Nat.mod_lt X (show 0<pts.length+1 by omega)
   have had:=adapt_le X (pts.length+1) true (by omega)
   generalize hQ:X / (pts.length+1)=Q at *
   generalize hM:X % (pts.length+1)=M at *
   have e2:wi64 (Q:Int)=(Q:Int):=wi64_id (by omega) (by omega)
   have e3:wi64 ((128:Int)+(Q:Int))=((128+Q:Nat):Int):=by rw [wi64_id (by omega) (by omega)];rfl
   have e4:wi64 ((M:Int)+1)=((M+1:Nat):Int):=by rw [wi64_id (by omega) (by omega)];rfl
   have hnz:(((pts.length+1:Nat):Int) != 0)=true:=by rw [bne_iff_ne];omega
   have c1:List.take (M-0) (List.drop 0 (natE pts))=natE (pts.take M):=by rw [Nat.sub_zero,List.drop_zero,natE_take]
   have c2:List.take ((natE pts).length-M) (List.drop M (natE pts))=natE (pts.drop M):=by
    rw [List.take_of_length_le (by rw [List.length_drop];omega),natE_drop]
   have hrow:∀ N:Nat,natE (pts.take M)++[[SV.int .i64 (N:Int)]]++natE (pts.drop M)=natE (insAt pts M N):=fun N=>by
    unfold insAt
    rw [natE_app,List.append_assoc]
    rfl
   have start:∀ (R:Type) (k0:Int→LL→Option R) (k1 k2:LL→LL→Option R) (k3:LL→Option R),rpdec_l5 LF LF s (p:Int) (natE pts) k0 k1 k2 k3 =
     cond (not (isPt (128+Q))) (k0 2 (natE pts)) (cond (ltI 256 ((pts.length+1:Nat):Int)) (k1 (natE pts) (natE (insAt pts M (128+Q))))
      (rpdec_l3 LF f s (natE (insAt pts M (128+Q))) (p':Int) ((128+Q:Nat):Int) ((M+1:Nat):Int) ((adapt X (pts.length+1) true:Nat):Int) (natE pts) k0 k1 k2)):=by
    intro R k0 k1 k2 k3
    have e:rpdec_l5 LF LF s (p:Int) (natE pts) k0 k1 k2 k3=rpdec_l5 LF (f+1) s (p:Int) (natE pts) k0 k1 k2 k3:=by rw [←hf]
    rw [e,rpdec_l5_s]
    unfold rpdec_l5f
    rw [ltI_t (by omega),cond_true]
    refine (a4 R _ _).trans ?_
    have s1:sub3 (0:Int) (M:Int) (natE pts).length=true:=sub3_t (by omega) (by omega) (by rw [natE_len];omega)
    have s2:sub3 (M:Int) ((natE pts).length:Int) (natE pts).length=true:=sub3_t (by omega) (by rw [natE_len];omega) (by omega)
    have t1:ltN (X:Int) 1152921504606846976=true:=ltN_t (by omega) (by omega)
    have t2:ltN ((pts.length+1:Nat):Int) 1000000=true:=ltN_t (by omega) (by omega)
    have t3:ltI 0 ((pts.length+1:Nat):Int)=true:=ltI_t (by omega)
    have l1:(natE (pts.take M)).length=M:=by rw [natE_len,List.length_take];omega
    have l2:(natE (pts.drop M)).length=pts.length-M:=by rw [natE_len,List.length_drop]
    have r1:roomy (0+(natE (pts.take M)).length)=true:=roomy_of (by omega)
    have r2:roomy ((natE (pts.take M)).length+1)=true:=roomy_of (by omega)
    have r3:roomy ((natE (pts.take M)++[[SV.int .i64 ((128+Q:Nat):Int)]]).length+(natE (pts.drop M)).length)=true:=roomy_of (by rw [List.length_append,List.length_singleton];omega)
    have l3:(natE (insAt pts M (128+Q))).length=pts.length+1:=by rw [natE_len,insAt_len]
    simp only [vl,el,e1,ed,em,e2,e3,e4,hnz,s1,s2,t1,t2,t3,Int.toNat_natCast,c1,c2,r1,r2,r3,hrow,l3,cond_true,ptI_nat]
   cases hpt:isPt (128+Q) with
   | false=>
    rw [if_neg (by simp)]
    refine .inr ⟨rfl,.inl fun R k0 k1 k2 k3=>?_⟩
    rw [start,hpt]
    rfl
   | true=>
    rw [if_pos rfl]
    by_cases hc:256<pts.length+1
    ·rw [if_pos hc]
     refine .inr ⟨rfl,.inr ⟨rfl,natE (insAt pts M (128+Q)),fun R k0 k1 k2 k3=>?_⟩⟩
     rw [start,hpt,ltI_t (by omega)]
     rfl
    ·rw [if_neg hc]
     have hn':128+Q≤1114111:=by
      unfold isPt at hpt
      simp only [Bool.and_eq_true,Nat.ble_eq] at hpt
      exact hpt.1
     have st2:∀ (R:Type) (k0:Int→LL→Option R) (k1 k2:LL→LL→Option R) (k3:LL→Option R),rpdec_l5 LF LF s (p:Int) (natE pts) k0 k1 k2 k3=rpdec_l3 LF f s (natE (insAt pts M (128+Q))) (p':Int) ((128+Q:Nat):Int) ((M+1:Nat):Int) ((adapt X (pts.length+1) true:Nat):Int) (natE pts) k0 k1 k2:=by
      intro R k0 k1 k2 k3
      rw [start,hpt,ltI_f (by omega)]
      rfl
     obtain ⟨z1,z2⟩:=rpdec_more s hs (natE pts) (s.length-p') p' f (insAt pts M (128+Q)) (128+Q) (M+1) (adapt X (pts.length+1) true) (by omega) (by omega) (by rw [insAt_len];omega) hn' (by omega) had
     have hX:X-0=X:=Nat.sub_zero X
     rw [hX]
     by_cases hz:(decGoP (s.drop p') (insAt pts M (128+Q)) (128+Q) (M+1) (adapt X (pts.length+1) true) false).2=0
     ·refine .inl ⟨hz,?_,fun R k0 k1 k2 k3=>by rw [st2];exact z1 hz R k0 k1 k2⟩
      exact decGoP_ne _ _ _ _ _ _ _ (Nat.le_refl _) (by rw [insAt_len];omega) hz
     ·obtain ⟨y1,y2⟩:=z2 hz
      refine .inr ⟨y1,?_⟩
      rcases y2 with y2 | ⟨y2,l',y3⟩
      ·exact .inl fun R k0 k1 k2 k3=>by rw [st2];exact y2 R k0 k1 k2
      ·exact .inr ⟨y2,l',fun R k0 k1 k2 k3=>by rw [st2];exact y3 R k0 k1 k2⟩
  ·rw [decGoP_err hne pts 128 0 72 true he]
   clear g1 d2
   refine .inr ⟨rfl,.inl fun R k0 k1 k2 k3=>?_⟩
   have e:rpdec_l5 LF LF s (p:Int) (natE pts) k0 k1 k2 k3=rpdec_l5 LF (f+1) s (p:Int) (natE pts) k0 k1 k2 k3:=by rw [←hf]
   rw [e,rpdec_l5_s]
   unfold rpdec_l5f
   rw [ltI_t (by omega),cond_true]
   have hfst:=congrArg Prod.fst d1
   simp only at hfst
   refine (g2 (by rw [hfst];omega) R _ _).trans ?_
   rw [hfst]
theorem rpdec_sp (s:By) (h0:small s.length=true):∃ r H,rpdec LF s (fun r0 l1=>rv (.tup [.fl 0,.s (.int .i64 r0)]) [.arr true 3 1 l1]) (fun r0 l1=>rv (.tup [.fl 1,.s (.int .i64 r0)]) [.arr true 3 1 l1,.arr true 3 1 []]) (fun l0 l1=>rv (.tup [.fl 2,.s (.int .i64 (3:Int))]) [.arr true 3 1 l0,.arr false 3 1 l1,.arr true 3 1 []]) (fun r0 l1=>rv (.tup [.s (.sl false false 1 r0),.s (.int .i64 (0:Int))]) [.arr true 3 1 l1])=rv r H∧
  r.stab [1,0] H = .tup [.s (.sl (decP s).1.isEmpty (decP s).1.isEmpty 1 (natR (decP s).1)),.s (.int .i64 ((decP s).2:Nat))]:=by
 have hLF:=LF_big
 unfold rpdec decP
 by_cases hl:1024<s.length
 ·rw [if_pos hl,ltI_t (by omega)]
  exact ⟨_,_,rfl,rfl⟩
 ·rw [if_neg hl,ltI_f (by omega),cond_false]
  have asc:=fun (R:Type) (K0:Unit→Option R) (K1:By→Int→Option R)=>rpdec_scan (k0:=K0) (k1:=K1) s (by omega) s.length 0 LF 0 (by omega) (by omega)
  rw [List.drop_zero] at asc
  cases ha:s.any (fun b=>Nat.ble 128 b.toNat) with
  | true=>
   rw [if_pos rfl]
   refine ⟨.tup [.fl 0,.s (.int .i64 4)],[.arr true 3 1 []],(asc _ _ _).trans ?_,rfl⟩
   rw [ha,if_pos rfl]
  | false=>
   rw [if_neg (by simp)]
   obtain ⟨d1,d2⟩:=lastDash_eq s
   have hlt:=lastDash_lt s
   have hcut:(if (45:UInt8)∈s then 0+lastDash s else 0)=lastDash s:=by
    split
    ·omega
    ·rename_i h;exact (d2 h).2.symm
   rw [ha,hcut] at asc
   have hcopy:=fun (R:Type) (K:By→Int→LL→Option R)=>rpdec_copy (k0:=K) s (by omega) (lastDash s) (by omega) (lastDash s) 0 LF [] (by omega) (by omega) rfl
   rw [List.drop_zero] at hcopy
   have hlen:((s.take (lastDash s)).map (·.toNat)).length=lastDash s:=by rw [List.length_map,List.length_take];omega
   generalize hm:lastDash s=m at *
   generalize hpts:(s.take m).map (·.toNat)=pts at *
   by_cases h256:256<m
   ·rw [if_pos h256]
    refine ⟨.tup [.fl 1,.s (.int .i64 3)],[.arr true 3 1 (natE pts),.arr true 3 1 []],(asc _ _ _).trans ?_,rfl⟩
    rw [if_neg (by simp)]
    refine (hcopy _ _).trans ?_
    rw [List.nil_append,natE_len,hlen,ltI_t (by omega)]
    rfl
   ·rw [if_neg h256]
    have fin:∀ p:Nat,p≤s.length→∀ (X:Option (PV × List Blk × Unit)),X=rpdec_l5 LF LF s (p:Int) (natE pts) (fun r0 l1=>rv (.tup [.fl 1,.s (.int .i64 r0)]) [.arr true 3 1 l1,.arr true 3 1 []]) (fun l0 l1=>rv (.tup [.fl 2,.s (.int .i64 (3:Int))]) [.arr true 3 1 l0,.arr false 3 1 l1,.arr true 3 1 []]) (fun r0 l1=>rv (.tup [.s (.sl false false 1 r0),.s (.int .i64 (0:Int))]) [.arr true 3 1 l1]) (fun l=>rv (.tup [.fl 0,.s (.int .i64 0)]) [.arr true 3 1 l])→
      ∃ r H,X=rv r H∧r.stab [1,0] H = .tup [.s (.sl (decGoP (s.drop p) pts 128 0 72 true).1.isEmpty (decGoP (s.drop p) pts 128 0 72 true).1.isEmpty 1 (natR (decGoP (s.drop p) pts 128 0 72 true).1)),.s (.int .i64 ((decGoP (s.drop p) pts 128 0 72 true).2:Nat))]:=by
     intro p hp X hX
     rcases rpdec_main s (by omega) p pts (by omega) hp with ⟨e1,e2⟩ | ⟨e1,e3,e2⟩ | ⟨e1,e2 | ⟨e3,l',e2⟩⟩
     ·refine ⟨_,_,hX.trans (e2 _ _ _ _ _),?_⟩
      rw [e1,decGoP_nil,natR_natE]
      simp [PV.stab,fixC,fix1,PV.snap,snapL,natE_isEmpty]
     ·refine ⟨_,_,hX.trans (e2 _ _ _ _ _),?_⟩
      rw [e1,natR_natE]
      have:(decGoP (s.drop p) pts 128 0 72 true).1.isEmpty=false:=by
       cases h:(decGoP (s.drop p) pts 128 0 72 true).1 with
       | nil=>exact absurd h e3
       | cons a r=>rfl
      rw [this]
      rfl
     ·refine ⟨_,_,hX.trans (e2 _ _ _ _ _),?_⟩
      rw [e1]
      rfl
     ·refine ⟨_,_,hX.trans (e2 _ _ _ _ _),?_⟩
      rw [e1,e3]
      rfl
    by_cases hz:m=0
    ·subst hz
     rw [if_pos rfl]
     have:=fin 0 (by omega) _ rfl
     rw [List.drop_zero] at this
     obtain ⟨r,H,g1,g2⟩:=this
     refine ⟨r,H,(asc _ _ _).trans ?_,g2⟩
     rw [if_neg (by simp)]
     refine (hcopy _ _).trans ?_
     rw [List.nil_append,natE_len,hlen,ltI_f (by omega),cond_false,ltI_f (by omega),cond_false]
     exact g1
    ·rw [if_neg hz]
     obtain ⟨r,H,g1,g2⟩:=fin (m+1) (by omega) _ rfl
     refine ⟨r,H,(asc _ _ _).trans ?_,g2⟩
     rw [if_neg (by simp)]
     refine (hcopy _ _).trans ?_
     have e1:wi64 ((m:Int)+1)=((m+1:Nat):Int):=by rw [wi64_id (by omega) (by omega)];rfl
     rw [List.nil_append,natE_len,hlen,ltI_f (by omega),cond_false,ltI_t (by omega),cond_true,e1]
     exact g1
theorem rpts_l1_step {R:Type} {k0:LL→Option R} {k1:By→Int→Int→Int→Int→LL→Option R} (s:By) (hs:s.length≤1000000000) (n i m v least kk:Nat) (l:LL) (hk:kk<m) (hm:m≤4) (hi:i+kk<s.length) (hv:v≤100000) (hn:0<n) :
  rpts_l1 LF n s i m v least kk l k0 k1=if 128≤(s.getD (i+kk) 0).toNat∧(s.getD (i+kk) 0).toNat≤191 then rpts_l1 LF (n-1) s i m ((v*64+(s.getD (i+kk) 0).toNat-128:Nat):Int) least ((kk+1:Nat):Int) l k0 k1 else k0 l:=by
 have hb:=(s.getD (i+kk) 0).toNat_lt
 obtain ⟨n,rfl⟩:∃ m,n=m+1:=⟨n-1,by omega⟩
 rw [rpts_l1_s]
 unfold rpts_l1f
 have e1:wi64 ((i:Int)+kk)=((i+kk:Nat):Int):=by rw [wi64_id (by omega) (by omega)];rfl
 have e2:wi64 ((kk:Int)+1)=((kk+1:Nat):Int):=by rw [wi64_id (by omega) (by omega)];rfl
 rw [ltI_t (by omega),e1,e2,inR_t (by omega) (by omega),bAt_nat]
 generalize (s.getD (i+kk) 0).toNat=b at *
 simp only [cond_true,vl]
 rw [wi64_id (n:=(b:Int)) (by omega) (by omega),Nat.add_sub_cancel]
 by_cases h1:b<128
 ·rw [ltI_t (by omega),if_neg (by omega)]
  rfl
 ·rw [ltI_f (by omega),cond_false]
  by_cases h2:191<b
  ·rw [ltI_t (by omega),if_neg (by omega)]
   rfl
  ·rw [ltI_f (by omega),cond_false,if_pos (by omega)]
   have e3:wi64 (wi64 (wi64 ((v:Int)*64)+(b:Int))-128)=((v*64+b-128:Nat):Int):=by
    rw [wi64_id (n:=(v:Int)*64) (by omega) (by omega),wi64_id (n:=(v:Int)*64+b) (by omega) (by omega),wi64_id (by omega) (by omega)]
    omega
   rw [e3]
theorem rpts_l1_end {R:Type} {k0:LL→Option R} {k1:By→Int→Int→Int→Int→LL→Option R} (s:By) (n i m v least:Nat) (l:LL) (hn:0<n) :
  rpts_l1 LF n s i m v least m l k0 k1=k1 s i m v least l:=by
 obtain ⟨n,rfl⟩:∃ m,n=m+1:=⟨n-1,by omega⟩
 rw [rpts_l1_s]
 unfold rpts_l1f
 rw [ltI_f (by omega)]
 rfl
theorem rpts_tail {R:Type} {k0:LL→Option R} {k1:By→Int→LL→Option R} (s:By) (hs:s.length≤1000000000) (i m v least:Nat) (P:List Nat) (hP:P.length≤1000000000) (hi:i+m≤s.length) (hv:v≤10000000) (hm:m≤4) :
  cond (ltI (v:Int) (least:Int)) (k0 (natE P)) (cond (not (ptI v)) (k0 (natE P)) (cond (roomy ((natE P).length+1)) (k1 s (wi64 ((i:Int)+m)) (natE P++[[SV.int .i64 (v:Int)]])) none)) =
   if least≤v∧isPt v=true then k1 s ((i+m:Nat):Int) (natE (P++[v])) else k0 (natE P):=by
 have e1:wi64 ((i:Int)+m)=((i+m:Nat):Int):=by rw [wi64_id (by omega) (by omega)];rfl
 rw [e1,natE_len,roomy_of (by omega),natE_app,show ptI (v:Int)=isPt v from rfl]
 by_cases h:v<least
 ·rw [ltI_t (by omega),if_neg (by omega)]
  rfl
 ·rw [ltI_f (by omega),cond_false]
  cases hp:isPt v with
  | false=>rw [if_neg (by simp)];rfl
  | true=>rw [if_pos ⟨by omega,rfl⟩];rfl
theorem rpts_j3_2 {R:Type} {k0:LL→Option R} {k1:By→Int→LL→Option R} (s:By) (hs:s.length≤1000000000) (i v least:Nat) (P:List Nat) (hP:P.length≤1000000000) (hi:i<s.length) (hv:v≤32) :
  rpts_j3 LF s i 2 v least (natE P) k0 k1=if 2≤s.length-i∧128≤(s.getD (i+1) 0).toNat∧(s.getD (i+1) 0).toNat≤191 then
   (if least≤v*64+(s.getD (i+1) 0).toNat-128∧isPt (v*64+(s.getD (i+1) 0).toNat-128)=true then k1 s ((i+2:Nat):Int) (natE (P++[v*64+(s.getD (i+1) 0).toNat-128])) else k0 (natE P)) else k0 (natE P):=by
 have hb:=(s.getD (i+1) 0).toNat_lt
 have hLF:=LF_big
 unfold rpts_j3
 have e1:wi64 ((s.length:Int)-i)=((s.length-i:Nat):Int):=by rw [wi64_id (by omega) (by omega)];omega
 rw [e1]
 simp only [vl]
 by_cases h:s.length-i<2
 ·rw [ltI_t (by omega),if_neg (by omega)]
  rfl
 ·rw [ltI_f (by omega),cond_false]
  refine Eq.trans (rpts_l1_step s hs LF i 2 v least 1 (natE P) (by omega) (by omega) (by omega) (by omega) (by omega)) ?_
  generalize (s.getD (i+1) 0).toNat=b at *
  by_cases h1:128≤b∧b≤191
  ·rw [if_pos h1,if_pos ⟨by omega,h1⟩]
   refine Eq.trans (rpts_l1_end s (LF-1) i 2 _ least (natE P) (by omega)) ?_
   exact rpts_tail s hs i 2 _ least P hP (by omega) (by omega) (by omega)
  ·rw [if_neg h1,if_neg (fun h=>h1 h.2)]
theorem rpts_j3_3 {R:Type} {k0:LL→Option R} {k1:By→Int→LL→Option R} (s:By) (hs:s.length≤1000000000) (i v least:Nat) (P:List Nat) (hP:P.length≤1000000000) (hi:i<s.length) (hv:v≤32) :
  rpts_j3 LF s i 3 v least (natE P) k0 k1=if 3≤s.length-i∧(128≤(s.getD (i+1) 0).toNat∧(s.getD (i+1) 0).toNat≤191)∧(128≤(s.getD (i+2) 0).toNat∧(s.getD (i+2) 0).toNat≤191) then
   (if least≤(v*64+(s.getD (i+1) 0).toNat-128)*64+(s.getD (i+2) 0).toNat-128∧isPt ((v*64+(s.getD (i+1) 0).toNat-128)*64+(s.getD (i+2) 0).toNat-128)=true then k1 s ((i+3:Nat):Int) (natE (P++[(v*64+(s.getD (i+1) 0).toNat-128)*64+(s.getD (i+2) 0).toNat-128])) else k0 (natE P)) else k0 (natE P):=by
 have hb:=(s.getD (i+1) 0).toNat_lt
 have hb2:=(s.getD (i+2) 0).toNat_lt
 have hLF:=LF_big
 unfold rpts_j3
 have e1:wi64 ((s.length:Int)-i)=((s.length-i:Nat):Int):=by rw [wi64_id (by omega) (by omega)];omega
 rw [e1]
 simp only [vl]
 by_cases h:s.length-i<3
 ·rw [ltI_t (by omega),if_neg (by omega)]
  rfl
 ·rw [ltI_f (by omega),cond_false]
  refine Eq.trans (rpts_l1_step s hs LF i 3 v least 1 (natE P) (by omega) (by omega) (by omega) (by omega) (by omega)) ?_
  by_cases h1:128≤(s.getD (i+1) 0).toNat∧(s.getD (i+1) 0).toNat≤191
  ·rw [if_pos h1]
   refine Eq.trans (rpts_l1_step s hs (LF-1) i 3 _ least 2 (natE P) (by omega) (by omega) (by omega) (by omega) (by omega)) ?_
   by_cases h2:128≤(s.getD (i+2) 0).toNat∧(s.getD (i+2) 0).toNat≤191
   ·rw [if_pos h2,if_pos ⟨by omega,h1,h2⟩]
    refine Eq.trans (rpts_l1_end s (LF-2) i 3 _ least (natE P) (by omega)) ?_
    exact rpts_tail s hs i 3 _ least P hP (by omega) (by omega) (by omega)
   ·rw [if_neg h2,if_neg (fun h=>h2 h.2.2)]
  ·rw [if_neg h1,if_neg (fun h=>h1 h.2.1)]
theorem rpts_j3_4 {R:Type} {k0:LL→Option R} {k1:By→Int→LL→Option R} (s:By) (hs:s.length≤1000000000) (i v least:Nat) (P:List Nat) (hP:P.length≤1000000000) (hi:i<s.length) (hv:v≤20) :
  rpts_j3 LF s i 4 v least (natE P) k0 k1=if 4≤s.length-i∧(128≤(s.getD (i+1) 0).toNat∧(s.getD (i+1) 0).toNat≤191)∧(128≤(s.getD (i+2) 0).toNat∧(s.getD (i+2) 0).toNat≤191)∧(128≤(s.getD (i+3) 0).toNat∧(s.getD (i+3) 0).toNat≤191) then
   (if least≤((v*64+(s.getD (i+1) 0).toNat-128)*64+(s.getD (i+2) 0).toNat-128)*64+(s.getD (i+3) 0).toNat-128∧isPt (((v*64+(s.getD (i+1) 0).toNat-128)*64+(s.getD (i+2) 0).toNat-128)*64+(s.getD (i+3) 0).toNat-128)=true then k1 s ((i+4:Nat):Int) (natE (P++[((v*64+(s.getD (i+1) 0).toNat-128)*64+(s.getD (i+2) 0).toNat-128)*64+(s.getD (i+3) 0).toNat-128])) else k0 (natE P)) else k0 (natE P):=by
 have hb:=(s.getD (i+1) 0).toNat_lt
 have hb2:=(s.getD (i+2) 0).toNat_lt
 have hb3:=(s.getD (i+3) 0).toNat_lt
 have hLF:=LF_big
 unfold rpts_j3
 have e1:wi64 ((s.length:Int)-i)=((s.length-i:Nat):Int):=by rw [wi64_id (by omega) (by omega)];omega
 rw [e1]
 simp only [vl]
 by_cases h:s.length-i<4
 ·rw [ltI_t (by omega),if_neg (by omega)]
  rfl
 ·rw [ltI_f (by omega),cond_false]
  refine Eq.trans (rpts_l1_step s hs LF i 4 v least 1 (natE P) (by omega) (by omega) (by omega) (by omega) (by omega)) ?_
  by_cases h1:128≤(s.getD (i+1) 0).toNat∧(s.getD (i+1) 0).toNat≤191
  ·rw [if_pos h1]
   refine Eq.trans (rpts_l1_step s hs (LF-1) i 4 _ least 2 (natE P) (by omega) (by omega) (by omega) (by omega) (by omega)) ?_
   by_cases h2:128≤(s.getD (i+2) 0).toNat∧(s.getD (i+2) 0).toNat≤191
   ·rw [if_pos h2]
    refine Eq.trans (rpts_l1_step s hs (LF-2) i 4 _ least 3 (natE P) (by omega) (by omega) (by omega) (by omega) (by omega)) ?_
    by_cases h3:128≤(s.getD (i+3) 0).toNat∧(s.getD (i+3) 0).toNat≤191
    ·rw [if_pos h3,if_pos ⟨by omega,h1,h2,h3⟩]
     refine Eq.trans (rpts_l1_end s (LF-3) i 4 _ least (natE P) (by omega)) ?_
     exact rpts_tail s hs i 4 _ least P hP (by omega) (by omega) (by omega)
    ·rw [if_neg h3,if_neg (fun h=>h3 h.2.2.2)]
   ·rw [if_neg h2,if_neg (fun h=>h2 h.2.2.1)]
  ·rw [if_neg h1,if_neg (fun h=>h1 h.2.1)]
theorem rpts_l0_sp {R:Type} {k0:By→Int→Int→LL→Option R} (n:Nat) (hn:0<n) (s:By) (i v:Int) (l:LL):rpts_l0 LF n s i v l k0=k0 s i v l:=by
 obtain ⟨n,rfl⟩:∃ m,n=m+1:=⟨n-1,by omega⟩
 rw [rpts_l0_s]
 rfl
theorem rpts_j0_sp {R:Type} {k0:LL→Option R} {k1:By→Int→LL→Option R} (s:By) (hs:s.length≤1000000000) (i v:Nat) (P:List Nat) (hP:P.length≤1000000000) (hi:i<s.length) (hv:v<128) :
  rpts_j0 LF s i v (natE P) k0 k1=k1 s ((i+1:Nat):Int) (natE (P++[v])):=by
 unfold rpts_j0
 have e1:wi64 ((s.length:Int)-i)=((s.length-i:Nat):Int):=by rw [wi64_id (by omega) (by omega)];omega
 rw [e1]
 simp only [vl]
 rw [ltI_f (by omega),cond_false]
 refine Eq.trans (show _=cond (ltI (v:Int) ((0:Nat):Int)) (k0 (natE P)) (cond (not (ptI v)) (k0 (natE P)) (cond (roomy ((natE P).length+1)) (k1 s (wi64 ((i:Int)+(1:Nat))) (natE P++[[SV.int .i64 (v:Int)]])) none)) from rpts_l0_sp LF (by have:=LF_big;omega) _ _ _ _) ?_
 rw [rpts_tail s hs i 1 v 0 P hP (by omega) (by omega) (by omega),if_pos]
 refine ⟨Nat.zero_le _,?_⟩
 simp only [isPt,Bool.and_eq_true,Bool.or_eq_true,Nat.ble_eq,Nat.blt_eq]
 omega
theorem isPt_low {v:Nat} (h:v<2048):isPt v=true:=by
 simp only [isPt,Bool.and_eq_true,Bool.or_eq_true,Nat.ble_eq,Nat.blt_eq]
 omega
theorem rpts_round {R:Type} {self:By→Int→LL→Option R} {k0 k1:LL→Option R} (s:By) (hs:s.length≤1000000000) (n i:Nat) (P:List Nat) (hP:P.length≤1000000000) (hi:i<s.length) :
  rpts_l2f LF n self s i (natE P) k0 k1=if (Lib.decodeL (s.drop i)).1=65533∧(Lib.decodeL (s.drop i)).2=1 then k0 (natE P) else self s ((i+(Lib.decodeL (s.drop i)).2:Nat):Int) (natE (P++[(Lib.decodeL (s.drop i)).1])):=by
 have g:∀ k,(s.drop i).getD k 0=s.getD (i+k) 0:=fun k=>by
  rw [List.getD_eq_getElem?_getD,List.getElem?_drop,←List.getD_eq_getElem?_getD]
 have hd:Lib.decodeL (s.drop i)=Lib.decodeN (s.length-i) (s.getD i 0).toNat (s.getD (i+1) 0).toNat (s.getD (i+2) 0).toNat (s.getD (i+3) 0).toNat:=by
  rw [Lib.decodeL_N,g,g,g,g,List.length_drop]
  rfl
 have l0:=(s.getD i 0).toNat_lt
 have l1:=(s.getD (i+1) 0).toNat_lt
 have l2:=(s.getD (i+2) 0).toNat_lt
 have l3:=(s.getD (i+3) 0).toNat_lt
 rw [hd]
 unfold rpts_l2f
 rw [ltI_t (by omega),inR_t (by omega) (by omega),bAt_nat,wi64_id (n:=((s.getD i 0).toNat:Int)) (by omega) (by omega)]
 simp only [cond_true]
 generalize (s.getD i 0).toNat=b at *
 by_cases h1:b<128
 ·rw [ltI_t (by omega),cond_true]
  have e:Lib.decodeN (s.length-i) b (s.getD (i+1) 0).toNat (s.getD (i+2) 0).toNat (s.getD (i+3) 0).toNat=(b,1):=by unfold Lib.decodeN;rw [if_pos h1]
  rw [e]
  simp only
  rw [if_neg (by omega)]
  exact rpts_j0_sp s hs i b P hP hi h1
 ·rw [ltI_f (show (128:Int)≤b by omega),cond_false]
  by_cases h2:b<194
  ·rw [ltI_t (show (b:Int)<194 by omega)]
   have e:Lib.decodeN (s.length-i) b (s.getD (i+1) 0).toNat (s.getD (i+2) 0).toNat (s.getD (i+3) 0).toNat=(65533,1):=by
    unfold Lib.decodeN
    rw [if_neg h1]
    split
    ·rw [if_neg (by omega)]
    ·rw [if_neg (by omega),if_neg (by omega)]
   rw [e,if_pos ⟨rfl,rfl⟩]
   simp only [Bool.not_true,cond_false]
   unfold rpts_j2
   unfold rpts_j1
   rw [cond_false,ltI_t (show (b:Int)<224 by omega),ltI_t (show (b:Int)<240 by omega)]
   rfl
  ·rw [ltI_f (show (194:Int)≤b by omega)]
   simp only [Bool.not_false,cond_true]
   by_cases h3:b<224
   ·rw [ltI_t (show (b:Int)<224 by omega)]
    unfold rpts_j2
    have e1:wi64 ((b:Int)-192)=((b-192:Nat):Int):=by rw [wi64_id (by omega) (by omega)];omega
    rw [cond_true,e1,dec2 _ _ _ _ _ ⟨by omega,h3⟩ l1]
    simp only [vl]
    refine Eq.trans (rpts_j3_2 s hs i (b-192) 128 P hP hi (by omega)) ?_
    by_cases hc:2≤s.length-i∧128≤(s.getD (i+1) 0).toNat∧(s.getD (i+1) 0).toNat≤191
    ·rw [if_pos hc,if_pos hc]
     simp only
     rw [if_pos ⟨by omega,isPt_low (by omega)⟩,if_neg (by omega)]
    ·rw [if_neg hc,if_neg hc,if_pos ⟨rfl,rfl⟩]
   ·rw [ltI_f (show (224:Int)≤b by omega)]
    unfold rpts_j2
    rw [cond_false,ltI_f (show (224:Int)≤b by omega)]
    simp only [Bool.not_false,cond_true]
    by_cases h4:b<240
    ·rw [ltI_t (show (b:Int)<240 by omega)]
     unfold rpts_j1
     have e1:wi64 ((b:Int)-224)=((b-224:Nat):Int):=by rw [wi64_id (by omega) (by omega)];omega
     rw [cond_true,e1,dec3 _ _ _ _ _ ⟨by omega,h4⟩ l1 l2]
     simp only [vl]
     refine Eq.trans (rpts_j3_3 s hs i (b-224) 2048 P hP hi (by omega)) ?_
     by_cases hc:3≤s.length-i∧(128≤(s.getD (i+1) 0).toNat∧(s.getD (i+1) 0).toNat≤191)∧(128≤(s.getD (i+2) 0).toNat∧(s.getD (i+2) 0).toNat≤191)
     ·rw [if_pos hc,if_pos hc]
      split
      ·simp only;rw [if_neg (by omega)]
      ·rw [if_pos ⟨rfl,rfl⟩]
     ·rw [if_neg hc,if_neg hc,if_pos ⟨rfl,rfl⟩]
    ·rw [ltI_f (show (240:Int)≤b by omega)]
     unfold rpts_j1
     rw [cond_false,ltI_f (show (240:Int)≤b by omega)]
     simp only [Bool.not_false,cond_true]
     by_cases h5:b<245
     ·rw [ltI_t (show (b:Int)<245 by omega),cond_true]
      have e1:wi64 ((b:Int)-240)=((b-240:Nat):Int):=by rw [wi64_id (by omega) (by omega)];omega
      rw [e1,dec4 _ _ _ _ _ ⟨by omega,h5⟩ l1 l2 l3]
      simp only [vl]
      refine Eq.trans (rpts_j3_4 s hs i (b-240) 65536 P hP hi (by omega)) ?_
      by_cases hc:4≤s.length-i∧(128≤(s.getD (i+1) 0).toNat∧(s.getD (i+1) 0).toNat≤191)∧(128≤(s.getD (i+2) 0).toNat∧(s.getD (i+2) 0).toNat≤191)∧(128≤(s.getD (i+3) 0).toNat∧(s.getD (i+3) 0).toNat≤191)
      ·rw [if_pos hc,if_pos hc]
       split
       ·simp only;rw [if_neg (by omega)]
       ·rw [if_pos ⟨rfl,rfl⟩]
      ·rw [if_neg hc,if_neg hc,if_pos ⟨rfl,rfl⟩]
     ·rw [ltI_f (show (245:Int)≤b by omega),cond_false]
      have e:Lib.decodeN (s.length-i) b (s.getD (i+1) 0).toNat (s.getD (i+2) 0).toNat (s.getD (i+3) 0).toNat=(65533,1):=by
       unfold Lib.decodeN
       rw [if_neg h1,if_neg (by omega),if_neg (by omega)]
       split
       ·rw [if_neg (by omega)]
       ·rfl
      rw [e,if_pos ⟨rfl,rfl⟩]
theorem rpts_loop (s:By) (hs:s.length≤1000000000):∀ (r i n:Nat) (P:List Nat),i+r=s.length→r<n→P.length≤i→
  (ptsB (s.drop i)=none→∃ l,∀ (R:Type) (k0 k1:LL→Option R),rpts_l2 LF n s i (natE P) k0 k1=k0 l)∧
  (∀ q,ptsB (s.drop i)=some q→∀ (R:Type) (k0 k1:LL→Option R),rpts_l2 LF n s i (natE P) k0 k1=k1 (natE (P++q))):=by
 intro r
 induction r using Nat.strongRecOn with
 | _ r ih=>
  intro i n P hi hn hP
  obtain ⟨n,rfl⟩:∃ m,n=m+1:=⟨n-1,by omega⟩
  by_cases hr:i<s.length
  ·have hne:s.drop i≠[]:=by rw [ne_eq,←List.length_eq_zero_iff,List.length_drop];omega
   have hst:=fun (R:Type) (k0 k1:LL→Option R)=>rpts_round (self:=fun s0 i1 l2=>rpts_l2 LF n s0 i1 l2 k0 k1) (k0:=k0) (k1:=k1) s hs n i P (by omega) hr
   have hw:=Lib.decodeL_width (s.drop i)
   have hle:=Lib.decodeL_le (s.drop i) hne
   rw [List.length_drop] at hle
   rw [ptsB_step _ hne]
   by_cases hbad:(Lib.decodeL (s.drop i)).1=65533∧(Lib.decodeL (s.drop i)).2=1
   ·rw [if_pos hbad]
    refine ⟨fun _=>⟨natE P,fun R k0 k1=>?_⟩,fun q hq=>by cases hq⟩
    rw [rpts_l2_s]
    refine (hst R k0 k1).trans ?_
    rw [if_pos hbad]
   ·rw [if_neg hbad,List.drop_drop]
    obtain ⟨w1,w2⟩:=ih (r-(Lib.decodeL (s.drop i)).2) (by omega) (i+(Lib.decodeL (s.drop i)).2) n (P++[(Lib.decodeL (s.drop i)).1]) (by omega) (by omega) (by rw [List.length_append,List.length_singleton];omega)
    constructor
    ·intro h
     cases hq:ptsB (s.drop (i+(Lib.decodeL (s.drop i)).2)) with
     | some q=>rw [hq] at h;cases h
     | none=>
      obtain ⟨l,e⟩:=w1 hq
      refine ⟨l,fun R k0 k1=>?_⟩
      rw [rpts_l2_s]
      refine (hst R k0 k1).trans ?_
      rw [if_neg hbad]
      exact e R k0 k1
    ·intro q h R k0 k1
     cases hq:ptsB (s.drop (i+(Lib.decodeL (s.drop i)).2)) with
     | none=>rw [hq] at h;cases h
     | some q'=>
      rw [hq] at h
      simp only [Option.map_some,Option.some.injEq] at h
      subst h
      rw [rpts_l2_s]
      refine (hst R k0 k1).trans ?_
      rw [if_neg hbad]
      refine (w2 q' hq R k0 k1).trans ?_
      rw [List.append_assoc]
      rfl
  ·have hnil:s.drop i=[]:=by rw [←List.length_eq_zero_iff,List.length_drop];omega
   have e:∀ (R:Type) (k0 k1:LL→Option R),rpts_l2 LF (n+1) s i (natE P) k0 k1=k1 (natE P):=fun R k0 k1=>by
    rw [rpts_l2_s]
    unfold rpts_l2f
    rw [ltI_f (by omega)]
    rfl
   rw [hnil,show ptsB []=some [] from rfl]
   refine ⟨fun h=>(by cases h),fun q hq R k0 k1=>?_⟩
   simp only [Option.some.injEq] at hq
   subst hq
   rw [List.append_nil]
   exact e R k0 k1
theorem rpts_sp (s:By) (h0:small s.length=true):∃ r H,rpts LF s (fun l0=>rv (.tup [.fl 1,.s (.bool false)]) [.arr true 3 1 l0,.arr true 3 1 []]) (fun l0=>rv (.tup [.fl 0,.s (.bool true)]) [.arr true 3 1 l0])=rv r H∧
  r.stab [1,0] H = .tup [.s (.sl (ptsN s).isEmpty (ptsN s).isEmpty 1 (natR (ptsN s))),.s (.bool (ptsB s).isSome)]:=by
 have hs:=maxL h0
 obtain ⟨w1,w2⟩:=rpts_loop s hs s.length 0 LF [] (by omega) (by have:=LF_big;omega) (Nat.zero_le _)
 rw [List.drop_zero] at w1 w2
 unfold ptsN
 cases hp:ptsB s with
 | none=>
  obtain ⟨l,e⟩:=w1 hp
  exact ⟨_,_,e _ _ _,rfl⟩
 | some q=>
  refine ⟨_,_,w2 q hp _ _ _,?_⟩
  cases q<;>rfl
theorem rprop_loop {R:Type} {k0:Unit→Option R} {k1:By→Bool→LL→Bool→Option R} (s:By) (z:Bool) (p:List Nat) (hp:p.length≤1000000000):∀ (r i n:Nat) (b:Bool),i+r=p.length→r<n→
  rprop_l0 LF n s z (natE p) b (i:Int) k0 k1=if (p.drop i).any (fun p=>Nat.ble 65 p&&Nat.ble p 90) then k0 () else k1 s z (natE p) (b || ((p.drop i).any fun p=>Nat.ble 128 p)):=by
 intro r
 induction r with
 | zero=>
  intro i n b hi hn
  obtain ⟨n,rfl⟩:∃ m,n=m+1:=⟨n-1,by omega⟩
  rw [rprop_l0_s]
  unfold rprop_l0f
  rw [natE_len,ltI_f (by omega),List.drop_of_length_le (by omega)]
  simp
 | succ r ih=>
  intro i n b hi hn
  obtain ⟨n,rfl⟩:∃ m,n=m+1:=⟨n-1,by omega⟩
  rw [rprop_l0_s]
  unfold rprop_l0f
  have e1:wi64 ((i:Int)+1)=((i+1:Nat):Int):=by rw [wi64_id (by omega) (by omega)];rfl
  have hd:p.drop i=p.getD i 0::p.drop (i+1):=by
   rw [List.getD_eq_getElem?_getD,List.getElem?_eq_getElem (by omega),Option.getD_some,List.getElem_cons_drop]
  rw [natE_len,ltI_t (by omega),inR_t (by omega) (by omega),Int.toNat_natCast,okE_nat (by omega),gE_nat _ _ (by omega),hd,List.any_cons,List.any_cons,e1]
  simp only [cond_true]
  generalize p.getD i 0=q
  have go:∀ c:Bool,rprop_l0 LF n s z (natE p) c ((i+1:Nat):Int) k0 k1=_:=fun c=>ih (i+1) n c (by omega) (by omega)
  simp only [go]
  by_cases h1:q<65
  ·rw [show ltI (q:Int) (65:Int)=true from ltI_t (by omega),show Nat.ble 65 q=false by rw [Bool.eq_false_iff,ne_eq,Nat.ble_eq];omega]
   have h2:Nat.ble 128 q=false:=by rw [Bool.eq_false_iff,ne_eq,Nat.ble_eq];omega
   rw [show ltI (q:Int) (128:Int)=true from ltI_t (by omega),h2]
   cases b<;>simp
  ·rw [show ltI (q:Int) (65:Int)=false from ltI_f (by omega),show Nat.ble 65 q=true by rw [Nat.ble_eq];omega]
   by_cases h2:90<q
   ·rw [show ltI (90:Int) (q:Int)=true from ltI_t (by omega),show Nat.ble q 90=false by rw [Bool.eq_false_iff,ne_eq,Nat.ble_eq];omega]
    by_cases h3:q<128
    ·rw [show ltI (q:Int) (128:Int)=true from ltI_t (by omega),show Nat.ble 128 q=false by rw [Bool.eq_false_iff,ne_eq,Nat.ble_eq];omega]
     cases b<;>simp
    ·rw [show ltI (q:Int) (128:Int)=false from ltI_f (by omega),show Nat.ble 128 q=true by rw [Nat.ble_eq];omega]
     cases b<;>simp
   ·rw [show ltI (90:Int) (q:Int)=false from ltI_f (by omega),show Nat.ble q 90=true by rw [Nat.ble_eq];omega]
    cases b<;>simp
theorem rprop_spec {R:Type} {k0:Bool→Option R} (s:By) (h0:small s.length=true):rprop LF s k0=k0 (properB s):=by
 have hLF:=LF_big
 unfold rprop properB
 rw [h0,cond_true]
 simp only [vl]
 by_cases h:(decP s).2=0
 ·have e:(((decP s).2:Int) != (0:Int))=false:=by rw [h];rfl
  rw [e,cond_false,natR_natE,h]
  have hl:=decP_len s
  refine Eq.trans (rprop_loop s _ (decP s).1 (by omega) (decP s).1.length 0 LF false (by omega) (by omega)) ?_
  rw [List.drop_zero]
  cases h1:(decP s).1.any (fun p=>Nat.ble 65 p&&Nat.ble p 90) with
  | true=>simp
  | false=>
   rw [if_neg (by simp),all_isI64_nat,elI_natE,encI_nat]
   simp only [cond_true,vl,Bool.false_or,Bool.not_false]
   by_cases h3:(encP (decP s).1).2=0
   ·rw [h3]
    cases (decP s).1.any (fun p=>Nat.ble 128 p)<;>cases ((encP (decP s).1).1==s)<;>simp
   ·have:(((encP (decP s).1).2:Int)==(0:Int))=false:=by simpa using h3
    have h3':((encP (decP s).1).2==0)=false:=by simpa using h3
    rw [this,h3']
    cases (decP s).1.any (fun p=>Nat.ble 128 p)<;>simp
 ·have e:(((decP s).2:Int) != (0:Int))=true:=by simpa using h
  have h':((decP s).2==0)=false:=by simpa using h
  rw [e,cond_true,h']
  rfl
theorem rlval_loop {R:Type} {k0:Unit→Option R} {k1:By→Option R} (s:By) (hs:s.length≤1000000000):∀ (r i n:Nat),i+r=s.length→r<n→
  rlval_l0 LF n s (i:Int) k0 k1=if (s.drop i).all lblByte then k1 s else k0 ():=by
 intro r
 induction r with
 | zero=>
  intro i n hi hn
  obtain ⟨n,rfl⟩:∃ m,n=m+1:=⟨n-1,by omega⟩
  rw [rlval_l0_s]
  unfold rlval_l0f
  rw [ltI_f (by omega),List.drop_of_length_le (by omega)]
  rfl
 | succ r ih=>
  intro i n hi hn
  obtain ⟨n,rfl⟩:∃ m,n=m+1:=⟨n-1,by omega⟩
  rw [rlval_l0_s]
  unfold rlval_l0f
  have e1:wi64 ((i:Int)+1)=((i+1:Nat):Int):=by rw [wi64_id (by omega) (by omega)];rfl
  rw [ltI_t (by omega),inR_t (by omega) (by omega),bAt_nat,drop_cons s i (by omega),e1,List.all_cons]
  simp only [cond_true]
  rw [ih (i+1) n (by omega) (by omega)]
  generalize s.getD i 0=b
  have hb:=lblByte_iff b
  have q1:((b.toNat:Int)==45)=(b==45):=u8_eqn b 45 (by omega)
  have q2:((b.toNat:Int)==95)=(b==95):=u8_eqn b 95 (by omega)
  rw [q1,q2]
  cases hl:lblByte b with
  | true=>
   rw [hb] at hl
   simp only [Bool.true_and]
   by_cases h1:b=45
   ·subst h1
    simp (disch:=decide) [ltI]
   ·by_cases h2:b=95
    ·subst h2
     simp (disch:=decide) [ltI]
    ·rcases hl with hl | hl | hl | hl
     ·rw [show ltI (b.toNat:Int) 97=false from ltI_f (by omega),show ltI (122:Int) b.toNat=false from ltI_f (by omega)];rfl
     ·rw [show ltI (b.toNat:Int) 97=true from ltI_t (by omega),show ltI (b.toNat:Int) 48=false from ltI_f (by omega),show ltI (57:Int) b.toNat=false from ltI_f (by omega)];rfl
     ·exact absurd hl h1
     ·exact absurd hl h2
  | false=>
   have hn:¬ ((97≤b.toNat∧b.toNat≤122)∨(48≤b.toNat∧b.toNat≤57)∨b=45∨b=95):=fun h=>by rw [hb.2 h] at hl;cases hl
   have n1:(b==45)=false:=by simpa using fun h=>hn (.inr (.inr (.inl h)))
   have n2:(b==95)=false:=by simpa using fun h=>hn (.inr (.inr (.inr h)))
   rw [n1,n2]
   simp only [Bool.not_false,cond_true,cond_false,Bool.false_and,Bool.false_eq_true,if_false]
   by_cases h1:b.toNat<48
   ·rw [show ltI (b.toNat:Int) 97=true from ltI_t (by omega),show ltI (b.toNat:Int) 48=true from ltI_t (by omega)];rfl
   ·by_cases h2:b.toNat<97
    ·rw [show ltI (b.toNat:Int) 97=true from ltI_t (by omega),show ltI (b.toNat:Int) 48=false from ltI_f (by omega),show ltI (57:Int) b.toNat=true from ltI_t (by omega)];rfl
    ·rw [show ltI (b.toNat:Int) 97=false from ltI_f (by omega),show ltI (122:Int) b.toNat=true from ltI_t (by omega),show ltI (b.toNat:Int) 48=false from ltI_f (by omega),show ltI (57:Int) b.toNat=true from ltI_t (by omega)];rfl
theorem take4_xn (s:By) (h:4≤s.length):(s.take 4==([120,110,45,45]:List UInt8))=xnB.isPrefixOf s:=by
 match s,h with
 | a::b::c::d::t,_=>
  simp only [List.take_succ_cons,List.take_zero,xnB,List.isPrefixOf,Bool.and_true]
  rw [show ((a::b::c::d::[])==([120,110,45,45]:List UInt8))=(a==120&&(b==110&&(c==45&&(d==45&&true)))) from rfl,Bool.and_true]
  rw [Bool.eq_iff_iff]
  simp only [Bool.and_eq_true,beq_iff_eq]
  exact ⟨fun h=>⟨h.1.symm,h.2.1.symm,h.2.2.1.symm,h.2.2.2.symm⟩,fun h=>⟨h.1.symm,h.2.1.symm,h.2.2.1.symm,h.2.2.2.symm⟩⟩
theorem rlval_spec {R:Type} {k0:Bool→Option R} (s:By) (h0:small s.length=true):rlval LF s k0=k0 (validL s):=by
 have hs:=maxL h0
 have hLF:=LF_big
 unfold rlval validL
 by_cases h1:s=[]
 ·subst h1
  rfl
 ·have hl:0<s.length:=List.length_pos_iff.2 h1
  have he:s.isEmpty=false:=by simpa using h1
  have he2:(s==([]:List UInt8))=false:=by simpa using h1
  rw [he2,cond_false,he]
  by_cases h2:63<s.length
  ·rw [ltI_t (by omega),show Nat.ble s.length 63=false by rw [Bool.eq_false_iff,ne_eq,Nat.ble_eq];omega]
   rfl
  ·rw [ltI_f (by omega),cond_false,show Nat.ble s.length 63=true by rw [Nat.ble_eq];omega,inR_t (by omega) (by omega)]
   have q1:(bAt s 0==(45:Int))=(s.getD 0 0==45):=by rw [bAt_zero];exact u8_eqn _ 45 (by omega)
   have e1:wi64 ((s.length:Int)-1)=((s.length-1:Nat):Int):=by rw [wi64_id (by omega) (by omega)];omega
   rw [q1,e1]
   simp only [cond_true,vl]
   rw [inR_t (by omega) (by omega),bAt_nat,show ((((s.getD (s.length-1) 0).toNat:Nat):Int)==45)=(s.getD (s.length-1) 0==45) from u8_eqn _ 45 (by omega)]
   cases h3:(s.getD 0 0==45) with
   | true=>
    rw [show (s.getD 0 0 != 45)=false by unfold bne;rw [h3];rfl]
    simp
   | false=>
    rw [show (s.getD 0 0 != 45)=true by unfold bne;rw [h3];rfl]
    simp only [cond_true,cond_false]
    cases h4:(s.getD (s.length-1) 0==45) with
    | true=>
     rw [show (s.getD (s.length-1) 0 != 45)=false by unfold bne;rw [h4];rfl]
     simp
    | false=>
     rw [show (s.getD (s.length-1) 0 != 45)=true by unfold bne;rw [h4];rfl]
     simp only [cond_false]
     refine Eq.trans (rlval_loop s hs s.length 0 LF (by omega) (by omega)) ?_
     rw [List.drop_zero]
     cases h5:s.all lblByte with
     | false=>simp
     | true=>
      rw [if_pos rfl]
      simp only [Bool.not_false,Bool.true_and,Bool.and_true]
      by_cases h6:s.length<4
      ·rw [ltI_t (by omega)]
       have:xnB.isPrefixOf s=false:=by
        rw [Bool.eq_false_iff,ne_eq,List.isPrefixOf_iff_prefix]
        intro h
        have:=h.length_le
        simp only [xnB,List.length_cons,List.length_nil] at this
        omega
       rw [this]
       rfl
      ·rw [ltI_f (by omega),cond_false,sub3_t (by omega) (by omega) (by omega),cond_true,cut_zero]
       have ht:(List.take (Int.toNat 4) s==([120,110,45,45]:List UInt8))=xnB.isPrefixOf s:=take4_xn s (by omega)
       rw [ht]
       cases h7:xnB.isPrefixOf s with
       | false=>rfl
       | true=>
        rw [sub3_t (by omega) (by omega) (by omega),cut_all]
        simp only [Bool.not_true,cond_false,cond_true]
        rw [small_t (by rw [List.length_drop];omega)]
        rfl
end Go.Proofs.YtokehocipgepnaaGreatDoor.E
namespace Go.Proofs.YtokehocipgepnaaGreatDoor.E
open Go Go.Proofs 
set_option linter.unusedVariables false
set_option maxRecDepth 100000
section
variable {σ R : Type} (lf : Nat) (cl : CallT) (yh : Yh σ) (s : σ) (k : Out → St σ → Option R)
noncomputable abbrev b_rhvn:Code:=bodyOf Tryz.f23
noncomputable def c_rhvn (lf:Nat):Cfg:=mkCfg lf [23] (lookK [(5,[2,0,0])]) [(55,X_rnumeric),(57,X_rsplit),(59,X_rlval)] (lookK [(9,[2]),(6,[3,0]),(8,[2]),(7,[3,0,24]),(5,[3,0,16]),(4,[3,0]),(3,[3]),(2,[2]),(1,[0,14]),(0,[0])]) [55,59] (lookK [(0,[]),(1,[3,0])]) (some [2]) [] [] []
noncomputable def rhvn_l0f {R:Type} (lf n:Nat) (self:LL→Int→Option R) (p0:LL) (i1:Int) (k0:Unit→Option R) (k1:Unit→Option R):Option R:=cond (ltI i1 (↑(List.length p0):Int)) (cond (inR i1 (List.length p0)) (cond (okE tStr p0 (Int.toNat i1) 0) (cond (small (List.length (gX p0 (Int.toNat i1) 0))) (cond (not (validL (gX p0 (Int.toNat i1) 0))) (k0 ()) (self p0 (wi64 (i1+(1:Int))))) (none)) (none)) (none)) (k1 ())
noncomputable def rhvn_l0 {R:Type} (lf n:Nat) (p0:LL) (i1:Int) (k0:Unit→Option R) (k1:Unit→Option R):Option R:=recN (α:=LL→Int→Option R) (fun _ _=>none) (fun n self p0 i1=>rhvn_l0f lf n self p0 i1 k0 k1) n p0 i1
theorem rhvn_l0_s {R:Type} (lf n:Nat) (p0:LL) (i1:Int) (k0:Unit→Option R) (k1:Unit→Option R):rhvn_l0 lf (n+1) p0 i1 k0 k1=rhvn_l0f lf n (fun p0 i1=>rhvn_l0 lf n p0 i1 k0 k1) p0 i1 k0 k1:=rfl
theorem rhvn_l0_eq (n:Nat) (p0:LL) (i1:Int):loopK 0 ((c_rhvn lf).keep 5) (bd (c_rhvn lf) cl yh (cd [1,1,1,0,1,0,0] b_rhvn)) n ⟨gp [(3,.s (.sl false false 1 p0)),(0,.s (.int .i64 i1))] 25,[],s⟩ k =
 rhvn_l0 lf n p0 i1 (fun _=>k .ret ⟨gp [(2,.s (.bool false))] 27,[],s⟩) (fun _=>k (.exit 0) ⟨gp [] 30,[],s⟩):=by
 induction n generalizing p0 i1 with
 | zero=>rfl
 | succ n ih=>rw [rhvn_l0_s];unfold rhvn_l0f;exact (Eq.trans (by kernel_rfl) (cond_congr (cond_congr (cond_congr (cond_congr (cond_congr rfl (ih p0 (wi64 (i1+(1:Int))))) rfl) rfl) rfl) rfl))
noncomputable def rhvn {R:Type} (lf:Nat) (name0:By) (k0:Bool→Option R):Option R:=cond (name0==([]:List UInt8)) (k0 false) (cond (ltI (253:Int) (↑(List.length name0):Int)) (k0 false) (cond (small (List.length name0)) (cond (numericB name0) (k0 false) (cond (small (List.length name0)) (vl (strE (pcs (u8n (46:Int)) name0)) fun l'1=>rhvn_l0 lf lf l'1 0 (fun _=>k0 false) (fun _=>k0 true)) (none))) (none)))
theorem rhvn_ev (d:Nat) (name0:By):evC (c_rhvn lf) (d+1) σ yh 23 [.s (.str name0)] [] s=rhvn lf name0 (fun r0=>some (.s (.bool r0),[],s)):=by
 refine (evC_eq (fn:=Tryz.f23) (by kernel_rfl) (by kernel_rfl) (by kernel_rfl)).trans ?_
 generalize evC (c_rhvn lf) d=cl
 unfold rhvn;exact (Eq.trans (by kernel_rfl) (cond_congr rfl (cond_congr rfl (cond_congr (cond_congr rfl (cond_congr (vl_congr fun l'1=>((rhvn_l0_eq lf cl yh s (blkK 0 (seqK (c_rhvn lf) cl yh (cd [1,1,1,1] b_rhvn) (retK (c_rhvn lf) Tryz.f23))) lf l'1 0).trans (congr (congr rfl (funext fun _=>(by kernel_rfl))) (funext fun _=>(by kernel_rfl))))) rfl)) rfl))))
end
end Go.Proofs.YtokehocipgepnaaGreatDoor.E
namespace Go.Proofs.YtokehocipgepnaaGreatDoor.E
open Go Go.Proofs
set_option linter.unusedVariables false
set_option linter.unusedSimpArgs false
theorem rhvn_loop {R:Type} {k0 k1:Unit→Option R} (l:List By) (hl:l.length≤1000000001) (h:∀ x∈l,x.length≤1000000000):∀ (r i n:Nat),i+r=l.length→r<n→
  rhvn_l0 LF n (strE l) (i:Int) k0 k1=if (l.drop i).all validL then k1 () else k0 ():=by
 intro r
 induction r with
 | zero=>
  intro i n hi hn
  obtain ⟨n,rfl⟩:∃ m,n=m+1:=⟨n-1,by omega⟩
  rw [rhvn_l0_s]
  unfold rhvn_l0f
  rw [strE_len,ltI_f (by omega),List.drop_of_length_le (by omega)]
  rfl
 | succ r ih=>
  intro i n hi hn
  obtain ⟨n,rfl⟩:∃ m,n=m+1:=⟨n-1,by omega⟩
  rw [rhvn_l0_s]
  unfold rhvn_l0f
  have e1:wi64 ((i:Int)+1)=((i+1:Nat):Int):=by rw [wi64_id (by omega) (by omega)];rfl
  have hd:l.drop i=l.getD i []::l.drop (i+1):=by
   rw [List.getD_eq_getElem?_getD,List.getElem?_eq_getElem (by omega),Option.getD_some,List.getElem_cons_drop]
  have hx:(l.getD i []).length≤1000000000:=h _ (by
   rw [List.getD_eq_getElem?_getD,List.getElem?_eq_getElem (by omega),Option.getD_some];exact List.getElem_mem _)
  rw [strE_len,ltI_t (by omega),inR_t (by omega) (by omega),Int.toNat_natCast,okE_strE (by omega),gX_strE,small_t hx,hd,List.all_cons,e1]
  simp only [cond_true]
  rw [ih (i+1) n (by omega) (by omega)]
  cases validL (l.getD i []) with
  | true=>rw [Bool.true_and];rfl
  | false=>rfl
theorem rhvn_spec {R:Type} {k0:Bool→Option R} (s:By) (h0:small s.length=true):rhvn LF s k0=k0 (validN s):=by
 have hs:=maxL h0
 have hLF:=LF_big
 unfold rhvn
 by_cases hnil:s=[]
 ·subst hnil
  rfl
 ·have he:(s==([]:By))=false:=by simpa using hnil
  rw [he,cond_false]
  unfold validN
  by_cases h1:253<s.length
  ·rw [ltI_t (by omega),show Nat.ble s.length 253=false by rw [Bool.eq_false_iff,ne_eq,Nat.ble_eq];omega]
   rfl
  ·rw [ltI_f (by omega),cond_false,h0,cond_true,show Nat.ble s.length 253=true by rw [Nat.ble_eq];omega]
   cases h2:numericB s with
   | true=>rfl
   | false=>
    rw [cond_false,cond_true]
    have hpl:=pcs_len 46 s
    have hcl:=count_le 46 s
    refine Eq.trans (rhvn_loop (pcs 46 s) (by omega) (fun x hx=>by have:=(pcs_mem hx).2;omega) (pcs 46 s).length 0 LF (by omega) (by omega)) ?_
    rw [List.drop_zero]
    cases (pcs 46 s).all validL<;>rfl
end Go.Proofs.YtokehocipgepnaaGreatDoor.E
namespace Go.Proofs.YtokehocipgepnaaGreatDoor.E
open Go Go.Proofs 
set_option linter.unusedVariables false
set_option maxRecDepth 100000
section
theorem x_rpoint:XFact Tryz.prog GX 147 X_rpoint:=by
 refine XFact.fix (pf:=X_rpoint0) _ (xfact_of_stab [] (C₀:=c_rpoint LF) (XFacts.ok (l:=[]) rfl trivial) (okFns_of rfl (by kernel_rfl)) follows ?_)
 intro args ret Hc h
 unfold X_rpoint0 at h
 split at h
 ·rename_i n
  obtain ⟨rfl,rfl⟩:=tr_ret h
  have e:=(rpoint_ev LF noY () 0 n).trans (rpoint_spec n )
  exact ⟨rfl,rfl,rfl,1,_,_,e,rfl⟩
 ·cases h
theorem x_radapt:XFact Tryz.prog GX 150 X_radapt:=by
 refine XFact.fix (pf:=X_radapt0) _ (xfact_of_stab [] (C₀:=c_radapt LF) (XFacts.ok (l:=[]) rfl trivial) (okFns_of rfl (by kernel_rfl)) follows ?_)
 intro args ret Hc h
 unfold X_radapt0 at h
 split at h
 ·rename_i d c f
  obtain ⟨h0,h⟩:=tr_need h
  obtain ⟨h1,h⟩:=tr_need h
  obtain ⟨h2,h⟩:=tr_need h
  obtain ⟨rfl,rfl⟩:=tr_ret h
  have e:=(radapt_ev LF noY () 0 d c f).trans (radapt_spec d c f h0 h1 h2)
  exact ⟨rfl,rfl,rfl,1,_,_,e,rfl⟩
 ·cases h
theorem x_rthr:XFact Tryz.prog GX 148 X_rthr:=by
 refine XFact.fix (pf:=X_rthr0) _ (xfact_of_stab [] (C₀:=c_rthr LF) (XFacts.ok (l:=[]) rfl trivial) (okFns_of rfl (by kernel_rfl)) follows ?_)
 intro args ret Hc h
 unfold X_rthr0 at h
 split at h
 ·rename_i k b
  obtain ⟨h0,h⟩:=tr_need h
  obtain ⟨h1,h⟩:=tr_need h
  obtain ⟨rfl,rfl⟩:=tr_ret h
  have e:=(rthr_ev LF noY () 0 k b).trans (rthr_spec k b h0 h1)
  exact ⟨rfl,rfl,rfl,1,_,_,e,rfl⟩
 ·cases h
theorem x_rdg36:XFact Tryz.prog GX 149 X_rdg36:=by
 refine XFact.fix (pf:=X_rdg360) _ (xfact_of_stab [] (C₀:=c_rdg36 LF) (XFacts.ok (l:=[]) rfl trivial) (okFns_of rfl (by kernel_rfl)) follows ?_)
 intro args ret Hc h
 unfold X_rdg360 at h
 split at h
 ·rename_i d
  obtain ⟨h0,h⟩:=tr_need h
  obtain ⟨rfl,rfl⟩:=tr_ret h
  have e:=(rdg36_ev LF noY () 0 d).trans (rdg36_spec d h0)
  exact ⟨rfl,rfl,rfl,1,_,_,e,rfl⟩
 ·cases h
theorem x_rval:XFact Tryz.prog GX 180 X_rval:=by
 refine XFact.fix (pf:=X_rval0) _ (xfact_of_stab [] (C₀:=c_rval LF) (XFacts.ok (l:=[]) rfl trivial) (okFns_of rfl (by kernel_rfl)) follows ?_)
 intro args ret Hc h
 unfold X_rval0 at h
 split at h
 ·rename_i b
  obtain ⟨h0,h⟩:=tr_need h
  obtain ⟨rfl,rfl⟩:=tr_ret h
  have e:=(rval_ev LF noY () 0 b).trans (rval_spec b h0)
  exact ⟨rfl,rfl,rfl,1,_,_,e,rfl⟩
 ·cases h
theorem x_renc:XFact Tryz.prog GX 110 X_renc:=by
 refine XFact.fix (pf:=X_renc0) _ (xfact_of_stab [0,0] (C₀:=c_renc LF) (XFacts.ok (l:=[(147,X_rpoint),(148,X_rthr),(149,X_rdg36),(150,X_radapt)]) rfl ⟨x_rpoint,x_rthr,x_rdg36,x_radapt,trivial⟩) (okFns_of rfl (by kernel_rfl)) follows ?_)
 intro args ret Hc h
 unfold X_renc0 at h
 split at h
 ·rename_i p_z p_t p
  obtain ⟨h0,h⟩:=tr_need h
  obtain ⟨rfl,rfl⟩:=tr_ret h
  obtain ⟨r,H,e,hs⟩:=renc_sp p_z p_t p h0
  exact ⟨rfl,rfl,rfl,1,r,H,(renc_ev LF noY () 0 p_z p_t p).trans e,hs⟩
 ·cases h
theorem x_rpdec:XFact Tryz.prog GX 151 X_rpdec:=by
 refine XFact.fix (pf:=X_rpdec0) _ (xfact_of_stab [1,0] (C₀:=c_rpdec LF) (XFacts.ok (l:=[(180,X_rval),(148,X_rthr),(150,X_radapt),(147,X_rpoint)]) rfl ⟨x_rval,x_rthr,x_radapt,x_rpoint,trivial⟩) (okFns_of rfl (by kernel_rfl)) follows ?_)
 intro args ret Hc h
 unfold X_rpdec0 at h
 split at h
 ·rename_i s
  obtain ⟨h0,h⟩:=tr_need h
  obtain ⟨rfl,rfl⟩:=tr_ret h
  obtain ⟨r,H,e,hs⟩:=rpdec_sp s h0
  exact ⟨rfl,rfl,rfl,1,r,H,(rpdec_ev LF noY () 0 s).trans e,hs⟩
 ·cases h
theorem x_rprop:XFact Tryz.prog GX 111 X_rprop:=by
 refine XFact.fix (pf:=X_rprop0) _ (xfact_of_stab [] (C₀:=c_rprop LF) (XFacts.ok (l:=[(151,X_rpdec),(110,X_renc)]) rfl ⟨x_rpdec,x_renc,trivial⟩) (okFns_of rfl (by kernel_rfl)) follows ?_)
 intro args ret Hc h
 unfold X_rprop0 at h
 split at h
 ·rename_i s
  obtain ⟨h0,h⟩:=tr_need h
  obtain ⟨rfl,rfl⟩:=tr_ret h
  have e:=(rprop_ev LF noY () 0 s).trans (rprop_spec s h0)
  exact ⟨rfl,rfl,rfl,1,_,_,e,rfl⟩
 ·cases h
theorem x_rlval:XFact Tryz.prog GX 59 X_rlval:=by
 refine XFact.fix (pf:=X_rlval0) _ (xfact_of_stab [] (C₀:=c_rlval LF) (XFacts.ok (l:=[(111,X_rprop)]) rfl ⟨x_rprop,trivial⟩) (okFns_of rfl (by kernel_rfl)) follows ?_)
 intro args ret Hc h
 unfold X_rlval0 at h
 split at h
 ·rename_i s
  obtain ⟨h0,h⟩:=tr_need h
  obtain ⟨rfl,rfl⟩:=tr_ret h
  have e:=(rlval_ev LF noY () 0 s).trans (rlval_spec s h0)
  exact ⟨rfl,rfl,rfl,1,_,_,e,rfl⟩
 ·cases h
theorem x_rhvn:XFact Tryz.prog GX 23 X_rhvn:=by
 refine XFact.fix (pf:=X_rhvn0) _ (xfact_of_stab [] (C₀:=c_rhvn LF) (XFacts.ok (l:=[(55,X_rnumeric),(57,X_rsplit),(59,X_rlval)]) rfl ⟨x_rnumeric,x_rsplit,x_rlval,trivial⟩) (okFns_of rfl (by kernel_rfl)) follows ?_)
 intro args ret Hc h
 unfold X_rhvn0 at h
 split at h
 ·rename_i s
  obtain ⟨h0,h⟩:=tr_need h
  obtain ⟨rfl,rfl⟩:=tr_ret h
  have e:=(rhvn_ev LF noY () 0 s).trans (rhvn_spec s h0)
  exact ⟨rfl,rfl,rfl,1,_,_,e,rfl⟩
 ·cases h
end
end Go.Proofs.YtokehocipgepnaaGreatDoor.E
namespace Go.Proofs.YtokehocipgepnaaGreatDoor.E
open Go Go.Proofs Go.ChangeShapes Go.WideShapes Go.ChangeAt Go.RowKit
set_option linter.unusedVariables false
set_option maxRecDepth 100000
section
theorem lsp_lifted (os:Os) (started:os.Started) (H:Type) (enc:TypeId × Value→H) :
  ReturnsInHanded {} Tryz.checked os 6 .any (fun w args=>(Rows.hostSpellingsSpec.pre enc Tryz.prog Tryz.f6 Rows.hostSpellingsRow.domain false w args∧laidMetH Tryz.prog laidH w)∧sizedMet enc Tryz.prog Tryz.f6 (OpenSpec.ofChange Rows.hostSpellingsSpec) false w args) (Rows.hostSpellingsSpec.post enc Tryz.prog Tryz.f6 false true false false):=
 law_handed started (C:=c_lsp LF) (tb:=4) rfl rfl (XFacts.ok (l:=[(23,X_rhvn),(20,X_awake),(24,X_kmod),(21,X_hparse)]) rfl ⟨x_rhvn,x_awake,x_kmod,x_hparse,trivial⟩) (okFns_of rfl (by kernel_rfl)) (by kernel_rfl) Tryz.func6 (c:=bodyOf Tryz.f6) rfl (by kernel_rfl)
  (by
   intro t ht
   have:t=9∨t=50:=by simpa only [List.mem_cons,List.mem_nil_iff,or_false] using (show t∈[9,50] from ht)
   rcases this with rfl | rfl
   all_goals exact ⟨⟨by kernel_rfl,of_decide_eq_true (by kernel_rfl)⟩,by kernel_rfl⟩) rfl (by kernel_rfl) rfl
  (fun ds hds=>by
   match ds,hds with
   | [d0,d1],_=>rfl)
  #[(.string ⟨#[]⟩),(.slice none 0 0)] 8 (by kernel_rfl) (by kernel_rfl) (by kernel_rfl)
  (fun args h=>lsp_law args h)
theorem lsp_holds:Rows.HostSpellingsSaid:=
 OpenClaim.holds_of_wide 6 Tryz.f6 rfl rfl rfl rfl rfl rfl rfl ⟨rfl,rfl,rfl,rfl,rfl⟩ rfl rfl rfl rfl rfl (by kernel_rfl) Tryz.func6 (by kernel_rfl)
  (of_decide_eq_true (by kernel_rfl)) (by unfold Func.isWrapper;first | (rw [if_pos (by decide +kernel)];kernel_rfl) | (rw [if_neg (by decide +kernel)];exact ⟨rfl,rfl⟩))
  (fun os started H enc _=>lsp_lifted os started H enc)
theorem lsp_card:Rows.HostSpellingsCardSaid:=
 Claim7.holds_tied_plain_at .later [] [.data,.data,.data,.data,.pinned] true (true, "2d4461915ea06489d68a60bf686921bd6071300f588936464676204155834289") false lsp_holds (fun _ h=>by cases h) (by kernel_rfl) (fun _ h=>by cases h) hostSpellings_row_tie rfl ⟨rfl,rfl⟩ (by kernel_rfl) rfl
  (fun f fn hf hfn=>by
   obtain rfl:f=6:=Option.some.inj ((show Tryz.prog.funcNamed "hstsstore/hstsstorelaw14.HostSpellings" = some 6 by kernel_rfl).symm.trans hf) |>.symm
   obtain rfl:fn=Tryz.f6:=(Option.some.inj (Tryz.func6.symm.trans hfn)).symm
   exact ⟨by kernel_rfl,fun j t ht=>by
    have hm:t∈[9,50]:=Array.mem_toList_iff.2 (Array.mem_of_getElem? ht)
    have hall:([9,50].all fun u=>!Tryz.prog.wantsStandIn u)=true:=by kernel_rfl
    exact (show Tryz.prog.wantsStandIn t=false by simpa using List.all_eq_true.1 hall t hm)⟩)
  (by kernel_rfl)
end
#print axioms lsp_card
end Go.Proofs.YtokehocipgepnaaGreatDoor.E
