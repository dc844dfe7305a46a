/- Merged: Si, Sg, Sj, Hrc, Nr9, Nr10, Hre, Nr12, Nr13, Nr14, Nr15, Nr16, Iy1, Iy2, Opd, Ql. -/
import Derived.Test.YtnfljbehcffmcaaGreatM1RefineChecks
import Derived.Test.YtnfljbehcffmcaaGreatM6RefineChecks
import Derived.Test.YtnfljbehcffmcaaGreatM2RefineChecks
import Derived.Shelf.Spec.SlicesInsert
import Derived.Lib.AppendZerosOnto
import Derived.Laws.NewBlocks
import Derived.Lib.Overlaps
import Derived.Laws.Externs
import Derived.Shelf.Spec.SlicesGrow
import Derived.Deep.Slices
import Derived.Lib.SmallJoins
open Nat renaming beq -> zc, le_refl -> zl, lt_succ_self -> zC, add_mul -> zW, le_succ -> yd, add_zero -> yg, mul_le_mul_right -> yh, zero_add -> yj, add_assoc -> yH, one_mul -> yL, zero_le -> yU, not_lt_zero -> y7, sub_self -> xT
open List renaming replicate -> zf, length_append -> zh, mem_cons_self -> zk, getElem?_eq_getElem -> zm, mem_singleton -> zo, all_eq_true -> zw, mem_cons -> zx, take_length -> zy, length_map -> zB, length_take -> zD, range -> zH, length_set -> zI, drop_drop -> zK, mem_cons_of_mem -> zL, mem_map -> zM, map_append -> zO, mem_append -> zP, length_drop -> zV, map_congr_left -> zX, length -> zY, getElem?_eq_some_iff -> z7, mem_filter -> z8, drop -> ya, map_cons -> yf, length_singleton -> ym, length_filter_le -> yq, append_nil -> yu, length_cons -> yw, length_nil -> yA, getElem?_take -> yF, getElem?_drop -> yG, drop_eq_getElem_cons -> yQ, flatMap_cons -> yR, map_nil -> yT, size_toArray -> y4, length_replicate -> y5, getElem_of_mem -> xd, length_eq_zero_iff -> xu, ext_getElem -> xw, take_append_drop -> xA, map_drop -> xB, mem_of_mem_drop -> xD, filterMap_cons -> xE, drop_of_length_le -> xH, mem_flatMap -> xJ, getElem_take -> xK, map_take -> xL, flatMap_append -> xR, getElem_drop -> xS, count_append -> xZ, pairwise_cons -> x8, getElem_range -> wo, getElem?_take_of_lt -> wu, count_eq_zero -> wz, getElem_append_left -> wB, getElem_append_right -> wC, getElem_replicate -> wF, range_succ -> wG, length_pos_iff -> wH, mem_of_mem_take -> wJ, any_eq_true -> wN, drop_length -> wP, filter_eq_nil_iff -> wU, filter_eq_self -> wV, filter_cons_of_pos -> vh, filter_cons_of_neg -> vi
open Int renaming toNat_natCast -> zg, le_refl -> zj, toNat -> zq, lt_irrefl -> yx
open Bool renaming false_eq_true -> yy, or_eq_true -> yC, true -> J, false -> O
open Option renaming bind_eq_some_iff -> zu, some -> zF, isSome_none -> vk, some -> V, none -> G
open Array renaming length_toList -> yo, getElem?_eq_some_iff -> y8, getElem?_eq_getElem -> y9, getElem?_toList -> wQ
open Decidable renaming decide -> vn
open Go.Proofs.Tryz renaming prog -> vp
open Go.Proofs.Tryz
set_option linter.unusedSectionVars false
set_option linter.unusedVariables false
set_option linter.unusedSimpArgs false
set_option linter.defProp false
noncomputable section
set_option maxRecDepth 100000
namespace Go.Proofs.YtnfljbehcffmcaaGreat
open Go Go.Iv Go.Sort Go.Proofs Go.Shelf Go.RowKit Go.Lib
section
variable {P:Program}
def pH(w:World)(dT sT ty elem:TypeId)(b o dLen dCap:Nat)(a:Addr)(sLen sCap:Nat)(cs:af Value)(K m:Nat)
  (hu:P.underlying dT=V (.slice elem)) (hz:∀w,(Go.sizeOf elem).run P w= .ok K w) (hm:Nat.min sLen dLen=m) (hn:zY cs=m*K)
  (hsrc:∀j v,cs[j]? =V v->w.cell? (a.add j)=V v) (hc:∀j,j<zY cs->(w.cell? ⟨b,o+j,G⟩).isSome=J) (hf:∀j,j<zY cs->w.frozen? ⟨b,o+j,G⟩=O) (h1:∀v∈cs,v.oneCell'=J):
  (Builtin.copy_ #[dT,sT] ty #[.slice (V ⟨b,o,G⟩) dLen dCap, .slice (V a) sLen sCap]).run P w= .ok (goInt m) (w.setCells b o cs):=by
 have hl:=run_firstCells_some (P:=P) w K m a sLen sCap cs hn hsrc;have hst:=run_storeCells_cells (P:=P) b o cs 0 w (by simpa using hc) (by simpa using hf) h1;rw[yg]at hst;simp[Builtin.copy_,run_underlying hu,Builtin.lenOf,hz,hm,hl,hst]
set_option maxHeartbeats 4000000 in
def Sr(FG:P.funcs[125]? =V f125)(mixed:P.follows .mixedOrders=J)
  (t3:P.underlying 3=V (.int .i64)) (a3:∀w,(isAgg 3).run P w= .ok O w) (z3:∀w,(Go.sizeOf 3).run P w= .ok 1 w) (v3:∀w,(zeroValue 3).run P w= .ok (.int .i64 0) w)
  (t4:P.underlying 4=V .bool) (a4:∀w,(isAgg 4).run P w= .ok O w) (z4:∀w,(Go.sizeOf 4).run P w= .ok 1 w) (v4:∀w,(zeroValue 4).run P w= .ok (.bool O) w)
  (t50:P.underlying 50=V (.slice 47)) (a50:∀w,(isAgg 50).run P w= .ok O w) (z50:∀w,(Go.sizeOf 50).run P w= .ok 1 w) (v50:∀w,(zeroValue 50).run P w= .ok (.slice G 0 0) w)
  (K:Nat) (z47:∀w,(Go.sizeOf 47).run P w= .ok K w)
  (base:aa Addr) (n c vb voff vc:Nat) (w W:World) (v':Value) (hnc:n<=c) (hn63:c<=9223372036854775807) (hnil:base=G->n=0/\c=0)
  (hr:(Builtin.append_ #[50,50] 50 #[.slice base n c, .slice (V ⟨vb,voff,G⟩) 1 vc]).run P w= .ok v' W):
  Calls P 125 #[.slice base n c, .int .i64 n, .slice (V ⟨vb,voff,G⟩) 1 vc] w λe w'=>e= .returned v'/\w'=W:=by
 go_enter FG,Tryz.ntmps125
 cases base with
 |none=>
  obtain⟨rfl,rfl⟩:=hnil rfl
  go_wp2_with (at_builtin;refine Lib.wpList_append_run _ rfl _ _ _ _ rfl _ _ rfl rfl _ _ hr ?_)
  go_ret
  exact⟨rfl,rfl⟩
 |some a=>
  obtain⟨ab,ao,asp⟩:=a
  go_wp2_with (at_builtin;refine Lib.wpList_append_run _ rfl _ _ _ _ rfl _ _ rfl rfl _ _ hr ?_)
  all_goals (go_ret;exact⟨rfl,rfl⟩)
set_option maxHeartbeats 8000000 in
def MX(FG:P.funcs[125]? =V f125)(F197:P.funcs[197]? =V f197)(mixed:P.follows .mixedOrders=J)
  (t3:P.underlying 3=V (.int .i64)) (a3:∀w,(isAgg 3).run P w= .ok O w) (z3:∀w,(Go.sizeOf 3).run P w= .ok 1 w) (v3:∀w,(zeroValue 3).run P w= .ok (.int .i64 0) w)
  (t4:P.underlying 4=V .bool) (a4:∀w,(isAgg 4).run P w= .ok O w) (z4:∀w,(Go.sizeOf 4).run P w= .ok 1 w) (v4:∀w,(zeroValue 4).run P w= .ok (.bool O) w)
  (t50:P.underlying 50=V (.slice 47)) (a50:∀w,(isAgg 50).run P w= .ok O w) (z50:∀w,(Go.sizeOf 50).run P w= .ok 1 w) (v50:∀w,(zeroValue 50).run P w= .ok (.slice G 0 0) w)
  (K:Nat) (hK:0<K) (z47:∀w,(Go.sizeOf 47).run P w= .ok K w)
  (b off n c i vb voff vc:Nat) (cs vs:af Value) (w:World) (hi:i<n) (hroom:n+1<=c) (hc63:c<=9223372036854775807) (hvb:vb≠b)
  (hcl:zY cs=n*K) (hvl:zY vs=K)
  (hcs:∀j v,cs[j]? =V v->w.cell? ⟨b,off+j,G⟩=V v) (hsp:∀j,j<(n+1)*K->(w.cell? ⟨b,off+j,G⟩).isSome=J) (hfz:∀j,j<(n+1)*K->w.frozen? ⟨b,off+j,G⟩=O)
  (hvs:∀j v,vs[j]? =V v->w.cell? ⟨vb,voff+j,G⟩=V v) (h1c:∀v∈cs,v.oneCell'=J) (h1v:∀v∈vs,v.oneCell'=J)
  (tA tB:TypeId) (kA kB:Nat) (hsa:w.shape? vb=V (tA,kA)) (hsb:w.shape? b=V (tB,kB)) (hkB:kB≠0) (hfa:w.frozen? ⟨vb,voff,G⟩=O) (hfe:w.frozen? ⟨vb,kA,G⟩=O):
  Calls P 125 #[.slice (V ⟨b,off,G⟩) n c, .int .i64 i, .slice (V ⟨vb,voff,G⟩) 1 vc] w λe w'=>
   e= .returned (.slice (V ⟨b,off,G⟩) (n+1) c)/\w'=(w.drew.setCells b (off+(i+1)*K) (cs.drop (i*K))).setCells b (off+i*K) vs:=by
 have hz2:¬((i:Int)=(n:Int)):=au;have hov:∀lb cb,(callFunc 197 #[.slice (V ⟨vb,voff,G⟩) 1 vc, .slice (V ⟨b,off+(i+1)*K,G⟩) lb cb]).run P w= .ok (.value (.bool O)) w:=λlb cb=>by
  rw[run_callFunc_extern F197 aY aY aY (e:=Extern.SlicesOverlaps.overlaps #[50,50] #[4]) aY,
   Lib.run_overlaps_apart w 50 4 47 t50 K z47 ⟨vb,voff,G⟩ ⟨b,off+(i+1)*K,G⟩ 1 vc lb cb hvb tA tB kA kB hsa hsb hkB hfa hfe]
  rfl
 have hiK:i*K<=n*K:=yh K au;have e1:(n+1)*K=n*K+K:=by rw[zW,yL]
 have e2:(i+1)*K=i*K+K:=by rw[zW,yL]
 have e3:(n-i)*K=n*K-i*K:=Nat.sub_mul n i K;have hiK2:(i+1)*K<=n*K:=yh K hi;have hdl:zY (cs.drop (i*K))=(n-i)*K:=by rw[zV,hcl,e3]
 have hw1:IntKind.i64.wrap ((i:Int)+1)=(i:Int)+1:=by rw[IntKind.wrap_i64];omega
 have hw2:IntKind.i64.wrap ((n:Int)+1)=(n:Int)+1:=by rw[IntKind.wrap_i64];omega
 have hb1:(0:Int)<=(i:Int)+1:=au;have htn:((i:Int)+1).toNat=i+1:=au;have htn2:((n:Int)+1).toNat=n+1:=au;have hb2:¬(c=i+1):=au;have hb3:(i:Int)<=(n:Int)+1:=au;have hb4:¬(c=i):=au;have hin:i<=n:=au;have hcp1:∀ty dc sc,(Builtin.copy_ #[50,50] ty #[.slice (V ⟨b,off+(i+1)*K,G⟩) (n-i) dc, .slice (V ⟨b,off+i*K,G⟩) (n+1-i) sc]).run P w.drew= .ok (goInt (n-i:Nat)) (w.drew.setCells b (off+(i+1)*K) (cs.drop (i*K))):=λty dc sc=>
  pH w.drew _ _ ty 47 b (off+(i+1)*K) (n-i) dc ⟨b,off+i*K,G⟩ (n+1-i) sc (cs.drop (i*K)) K (n-i) t50 z47 (by simp only[Nat.min_def];split<;>omega) hdl
   (λj v hj=>by rw[Addr.add_lit,yH];exact hcs (i*K+j) v (by rwa [yG]at hj))
   (λj hj=>by rw[yH];exact hsp _ au) (λj hj=>by rw[yH];exact hfz _ au) (λv hv=>h1c v (xD hv))
 obtain⟨W1,hW1⟩:∃W1,W1=w.drew.setCells b (off+(i+1)*K) (cs.drop (i*K)):=⟨_,rfl⟩;have hsp1:∀k,k<(n+1)*K->(W1.cell? ⟨b,off+k,G⟩).isSome=J:=λk hk=>by
  rw[hW1];exact isSome_setCells b _ _ _ (λj hj=>by rw[yH];exact hsp _ au) _ (hsp k hk)
 have hcp2:∀(W:World),(∀x,W.cell? x=W1.cell? x)->(∀x,W.frozen? x=W1.frozen? x)->∀ty dc,(Builtin.copy_ #[50,50] ty #[.slice (V ⟨b,off+i*K,G⟩) (n+1-i) dc, .slice (V ⟨vb,voff,G⟩) 1 vc]).run P W= .ok (goInt (1:Nat)) (W.setCells b (off+i*K) vs):=λW hWc hWf ty dc=>
  pH W _ _ ty 47 b (off+i*K) (n+1-i) dc ⟨vb,voff,G⟩ 1 vc vs K 1 t50 z47 (by simp only[Nat.min_def];split<;>omega) (by rw[hvl,yL])
   (λj v hj=>by
    rw[Addr.add_lit,hWc,hW1,World.cell?_setCells_out b _ _ _ _ (λh _=>dS h hvb)];exact hvs j v hj)
   (λj hj=>by rw[hWc,yH];exact hsp1 _ au) (λj hj=>by rw[hWf,hW1,World.frozen?_setCells,yH];exact hfz _ au) h1v
 rw[<-hW1]at hcp1;clear e1 e2 e3 hiK hiK2 hdl hsp1 hcl
 go_enter FG,Tryz.ntmps125
 go_wp2_with (simp only[hov])
 go_region_law_o (refine step_copy_runI rfl _ _ 50 50 rfl _ _ (by simp[Act.eval,Act.put]) (by simp[Act.eval,Act.put]) (hcp1 _ _ _) ?_)
 go_wp2_with (at_builtin;refine wpList_copy_runI _ rfl _ _ 50 50 rfl _ _ rfl rfl (hcp2 _ (λ_=>rfl) (λ_=>rfl) _ _) ?_)
 go_ret
 first|exact⟨rfl,rfl⟩|exact⟨rfl,by rw[hW1]⟩
set_option maxHeartbeats 8000000 in
def OB(FG:P.funcs[125]? =V f125)(mixed:P.follows .mixedOrders=J)
  (t3:P.underlying 3=V (.int .i64)) (a3:∀w,(isAgg 3).run P w= .ok O w) (z3:∀w,(Go.sizeOf 3).run P w= .ok 1 w) (v3:∀w,(zeroValue 3).run P w= .ok (.int .i64 0) w)
  (t4:P.underlying 4=V .bool) (a4:∀w,(isAgg 4).run P w= .ok O w) (z4:∀w,(Go.sizeOf 4).run P w= .ok 1 w) (v4:∀w,(zeroValue 4).run P w= .ok (.bool O) w)
  (t50:P.underlying 50=V (.slice 47)) (a50:∀w,(isAgg 50).run P w= .ok O w) (z50:∀w,(Go.sizeOf 50).run P w= .ok 1 w) (v50:∀w,(zeroValue 50).run P w= .ok (.slice G 0 0) w)
  (i0:TypeInfo) (z:Value) (hi0:P.info? 47=V i0) (hz0:i0.zero=V z) (hs0:0<i0.size) (hzs:z.cells.size=i0.size)
  (K:Nat) (hKs:i0.size=K) (z47:∀w,(Go.sizeOf 47).run P w= .ok K w)
  (b off n c i vb voff vc:Nat) (cs vs:af Value) (w:World) (hi:i<n) (hnc:n<=c) (hroom:c<n+1) (hn63:n+1<=4611686018427387904) (hbig:(n+1)*i0.bytes<=140737488355328)
  (hcl:zY cs=n*K) (hvl:zY vs=K)
  (hcs:∀j v,cs[j]? =V v->w.cell? ⟨b,off+j,G⟩=V v)
  (hvs:∀j v,vs[j]? =V v->w.cell? ⟨vb,voff+j,G⟩=V v) (h1c:∀v∈cs,v.oneCell'=J) (h1v:∀v∈vs,v.oneCell'=J) (hbw:b<w.heap.size) (hvw:vb<w.heap.size):
  Calls P 125 #[.slice (V ⟨b,off,G⟩) n c, .int .i64 i, .slice (V ⟨vb,voff,G⟩) 1 vc] w λe w'=>
   e= .returned (.slice (V ⟨w.heap.size,0,G⟩) (n+1) (grownCap w (n+1) c 47))/\
   w'=(((w.alloc (.cells ((cs.take (i*K)).toArray++Builtin.zeroCells z.cells (n+1-i)++Builtin.zeroCells z.cells (grownCap w (n+1) c 47-(n+1))) 47)).drew.setCells w.heap.size (i*K) vs).drew).setCells w.heap.size ((i+1)*K) (cs.drop (i*K)):=by
 have hz2:¬((i:Int)=(n:Int)):=au;have hz3:(c:Int)<(n:Int)+1:=au;have hkk:(n:Int)+1-(i:Int)=((n+1-i:Nat):Int):=au;have hik:i+(n+1-i)=n+1:=au;have hiK:i*K<=n*K:=yh K au;have e1:(n+1)*K=n*K+K:=by rw[zW,yL]
 have e2:(i+1)*K=i*K+K:=by rw[zW,yL]
 have e3:(n-i)*K=n*K-i*K:=Nat.sub_mul n i K;have e4:(n+1-i)*K=(n+1)*K-i*K:=Nat.sub_mul (n+1) i K;have hiK2:(i+1)*K<=n*K:=yh K hi;have hdl:zY (cs.drop (i*K))=(n-i)*K:=by rw[zV,hcl,e3]
 have hold:(Builtin.firstCells i0.size i (.slice (V ⟨b,off,G⟩) i c)).run P w.drew= .ok (cs.take (i*K)).toArray w.drew:=by
  rw[hKs];exact run_firstCells_some w.drew K i ⟨b,off,G⟩ i c (cs.take (i*K)) (by rw[zD];omega) (λj v hj=>by
   rw[Addr.add_lit];rw[yF]at hj;split at hj
   ·exact hcs j v hj
   ·cases hj)
 have hrz:∀ty,(Builtin.append_ #[50,3] ty #[.slice (V ⟨b,off,G⟩) i c, .int .i64 ((n:Int)+1-(i:Int))]).run P w=
   .ok (.slice (V ⟨w.heap.size,0,G⟩) (n+1) (grownCap w (n+1) c 47)) (w.drew.alloc (.cells ((cs.take (i*K)).toArray++Builtin.zeroCells z.cells (n+1-i)++Builtin.zeroCells z.cells (grownCap w (n+1) c 47-(n+1))) 47)):=λty=>by
  have h:=Lib.run_append_grow_zeros w 50 3 ty 47 i0 _ .i64 .i64 t50 t3 hi0 hz0 (V ⟨b,off,G⟩) i c (cs.take (i*K)) hold (n+1-i) au hs0 au au
   (by have:(n+1-i)*i0.bytes<=(n+1)*i0.bytes:=yh _ au;omega)
   (by rw[hik];exact growslice_fits hroom hbig)
  rw[hik]at h;rw[hkk];exact h
 obtain⟨za,hG⟩:∃za,za=grownCap w (n+1) c 47:=⟨_,rfl⟩;obtain⟨ROW,hROW⟩:∃ROW:Array Value,ROW=(cs.take (i*K)).toArray++Builtin.zeroCells z.cells (n+1-i)++Builtin.zeroCells z.cells (za-(n+1)):=⟨_,rfl⟩;rw[<-hG]at hrz ⊢;rw[<-hROW]at hrz ⊢;have hRl:(n+1)*K<=ROW.size:=by
  rw[hROW];simp only[Array.size_append,y4,zD,size_zeroCells,hzs,hKs,hcl];omega
 obtain⟨W1,hW1⟩:∃W1,W1=w.drew.alloc (.cells ROW 47):=⟨_,rfl⟩;rw[<-hW1]at hrz;have hN:∀j,j<(n+1)*K->(W1.cell? ⟨w.heap.size,j,G⟩).isSome=J:=λj hj=>by
  rw[hW1,World.cell?_alloc_at (w:=w.drew) ROW _ w.heap.size j rfl,y9 au];rfl
 have hNf:∀j,W1.frozen? ⟨w.heap.size,j,G⟩=O:=λj=>by rw[hW1];exact World.frozen?_alloc_at (w:=w.drew) ROW _ w.heap.size j rfl
 have hOb:∀j v,w.cell? ⟨b,j,G⟩=V v->W1.cell? ⟨b,j,G⟩=V v:=λj v h=>by rw[hW1,World.cell?_alloc_past (w:=w.drew) _ b j hbw];exact h
 have hOv:∀j v,w.cell? ⟨vb,j,G⟩=V v->W1.cell? ⟨vb,j,G⟩=V v:=λj v h=>by rw[hW1,World.cell?_alloc_past (w:=w.drew) _ vb j hvw];exact h
 have hcpA:∀(W:World),(∀x,W.cell? x=W1.cell? x)->(∀x,W.frozen? x=W1.frozen? x)->∀ty dc,(Builtin.copy_ #[50,50] ty #[.slice (V ⟨w.heap.size,i*K,G⟩) (n+1-i) dc, .slice (V ⟨vb,voff,G⟩) 1 vc]).run P W= .ok (goInt (1:Nat)) (W.setCells w.heap.size (i*K) vs):=λW hWc hWf ty dc=>
  pH W _ _ ty 47 w.heap.size (i*K) (n+1-i) dc ⟨vb,voff,G⟩ 1 vc vs K 1 t50 z47 (by simp only[Nat.min_def];split<;>omega) (by rw[hvl,yL])
   (λj v hj=>by rw[Addr.add_lit,hWc];exact hOv _ v (hvs j v hj))
   (λj hj=>by rw[hWc];exact hN _ au) (λj hj=>by rw[hWf];exact hNf _) h1v
 have hGn:n+1<=za:=by rw[hG];exact grownCap_ge w _ _ _
 have hG63:za<=9223372036854775807:=by
  have:=grownCap_le_maxLen w (n+1) c 47 (by unfold maxLen;omega);rw[<-hG]at this;unfold maxLen at this;omega
 have hGi:¬(za=i):=au;have hGim:¬(za=i+1):=au;have hci:¬(c=i):=au;have hbN:b≠w.heap.size:=au;have hcpB:∀(W:World),(∀x,W.cell? x=(W1.setCells w.heap.size (i*K) vs).cell? x)->(∀x,W.frozen? x=(W1.setCells w.heap.size (i*K) vs).frozen? x)->∀ty dc sc,(Builtin.copy_ #[50,50] ty #[.slice (V ⟨w.heap.size,(i+1)*K,G⟩) (n-i) dc, .slice (V ⟨b,off+i*K,G⟩) (n-i) sc]).run P W= .ok (goInt (n-i:Nat)) (W.setCells w.heap.size ((i+1)*K) (cs.drop (i*K))):=λW hWc hWf ty dc sc=>
  pH W _ _ ty 47 w.heap.size ((i+1)*K) (n-i) dc ⟨b,off+i*K,G⟩ (n-i) sc (cs.drop (i*K)) K (n-i) t50 z47 (by simp only[Nat.min_def];split<;>omega) hdl
   (λj v hj=>by
    rw[Addr.add_lit,hWc,World.cell?_setCells_out _ _ _ _ _ (λh _=>dS h hbN),yH];exact hOb _ v (hcs (i*K+j) v (by rwa [yG]at hj)))
   (λj hj=>by rw[hWc];exact isSome_setCells _ _ _ _ (λt ht=>hN _ au) _ (hN _ au))
   (λj hj=>by rw[hWf,World.frozen?_setCells];exact hNf _) (λv hv=>h1c v (xD hv))
 subst hW1;have hE1:∀x,((w.alloc (.cells ROW 47)).drew).cell? x=(w.drew.alloc (.cells ROW 47)).cell? x:=λx=>rfl;have hE2:∀x,((w.alloc (.cells ROW 47)).drew).frozen? x=(w.drew.alloc (.cells ROW 47)).frozen? x:=λx=>rfl;have hF1:∀x,(((w.alloc (.cells ROW 47)).drew.setCells w.heap.size (i*K) vs).drew).cell? x=((w.drew.alloc (.cells ROW 47)).setCells w.heap.size (i*K) vs).cell? x:=λx=>rfl;have hF2:∀x,(((w.alloc (.cells ROW 47)).drew.setCells w.heap.size (i*K) vs).drew).frozen? x=((w.drew.alloc (.cells ROW 47)).setCells w.heap.size (i*K) vs).frozen? x:=λx=>rfl;have hw1:IntKind.i64.wrap ((i:Int)+1)=(i:Int)+1:=by rw[IntKind.wrap_i64];omega
 have hw2:IntKind.i64.wrap ((n:Int)+1)=(n:Int)+1:=by rw[IntKind.wrap_i64];omega
 have hb1:(0:Int)<=(i:Int)+1:=au;have hin:i<=n:=au;have htn:((i:Int)+1).toNat=i+1:=au;have hb3:(i:Int)<=(n:Int):=au;clear hkk hik hold hROW hG hRl e1 e2 e3 e4 hiK hiK2 hdl hcl
 go_enter FG,Tryz.ntmps125
 go_wp2_with (first
  |(at_builtin;refine Lib.wpList_append_run _ rfl _ _ _ _ rfl _ _ rfl rfl _ _ (hrz _) ?_)
  |(at_builtin;refine wpList_copy_runI _ rfl _ _ 50 50 rfl _ _ rfl rfl (hcpA _ hE1 hE2 _ _) ?_)
  |(at_builtin;refine wpList_copy_runI _ rfl _ _ 50 50 rfl _ _ rfl rfl (hcpB _ (λ_=>rfl) (λ_=>rfl) _ _ _) ?_))
 go_region_law_o (refine step_copy_runI rfl _ _ 50 50 rfl (.slice (V ⟨w.heap.size,(i+1)*K,G⟩) (n-i) (za-(i+1))) (.slice (V ⟨b,off+i*K,G⟩) (n-i) (c-i)) (by simp[Act.eval,Act.put]) (by simp[Act.eval,Act.put]) (hcpB _ hF1 hF2 50 (za-(i+1)) (c-i)) ?_)
 go_wp2
 go_ret
 exact⟨rfl,rfl⟩
end
end Go.Proofs.YtnfljbehcffmcaaGreat
end
noncomputable section
set_option maxRecDepth 100000
namespace Go.Proofs.YtnfljbehcffmcaaGreat
open Go Go.Iv
open Go.IntKind (i64 u64)
def heap_alloc(w:World)(o:Obj):(w.alloc o).heap[w.heap.size]? =V o:=by unfold World.alloc;simp
end Go.Proofs.YtnfljbehcffmcaaGreat
end
noncomputable section
set_option maxRecDepth 100000
namespace Go.Proofs.YtnfljbehcffmcaaGreat
open Go Go.Iv Go.Sort Go.Proofs
abbrev azt:=af aC
def d125:Td 2 azt:= .c [] [6] (.r 2 3 (ec 6 (qo 2) en) (sr 2 47 sn) (λz=>z.2.1) (λx=>(((),()),(x,()))))
def aDh:=(lc (qo 0) (aU (lc (qo 1) ln)))
def aBU:=(sr 0 47 (sr 1 47 sn))
def Vo(a1:Int)(b0:af aC)(b1:af aC):aa azt:=if 0<=a1/\a1<=zY b0/\zY b0<=1000000000/\zY b1=1 then V (b0.take a1.toNat++b1++b0.drop a1.toNat)else G
def aqW:Prop:=HY vp 125 2 aDh aBU d125 (λg=>Vo g.1.2.1 g.2.1 g.2.2.1)
def avk:bu->bu:=eY vp 125 2 aDh aBU d125 (λg=>Vo g.1.2.1 g.2.1 g.t.1)
def abV(hv:aqW){F:bu}(h:bD vp F):bD vp (avk F):=Dy hv ⟨_,func125,aY,aY⟩ (λ_=>aY) h
section
variable {α:Type} [Inhabited α] {enc:α->af Value} (hk:∀x,zY (enc x)=2)
include hk
theorem LJ:∀(L:af α) (i:Nat),(L.flatMap enc).drop (i*2)=(L.drop i).flatMap enc
 |L,0=>by simp
 |[],i+1=>by simp
 |x::L,i+1=>by
  rw[yR,List.drop_succ_cons,<-LJ L i,show (i+1)*2=2+i*2 by omega,<-zK,List.drop_left' (hk x)]
theorem YI:∀(L:af α) (i:Nat),(L.flatMap enc).take (i*2)=(L.take i).flatMap enc
 |L,0=>by simp
 |[],i+1=>by simp
 |x::L,i+1=>by
  rw[yR,List.take_succ_cons,yR,<-YI L i,show (i+1)*2=2+i*2 by omega,List.take_append,hk x,List.take_of_length_le (by rw[hk];omega),show 2+i*2-2=i*2 by omega]
theorem ab1:∀(L:af α),zY (L.flatMap enc)=zY L*2
 |[]=>rfl
 |x::L=>by rw[yR,zh,hk,ab1 L,yw];omega
theorem Gq(L:af α):flatK enc 2 L.toArray=(L.flatMap enc).toArray:=by
 refine JC enc L.toArray (by rw[ab1 hk];simp) λi hi=> ?_;have hi:i<zY L:=by simpa using hi
 rw[LJ hk,yQ hi,yR,List.take_left' (hk _)];simp[hi]
end
def Wg{us us1:af Value}{n i:Nat}{F:Array Value}(hu:zY us=n*2)(h1:zY us1=2)(hi:i<=n)(hF:(n+1)*2<=F.size)(h:∀t,t<(n+1)*2->F[t]! =if t<i*2 then us[t]! else if t<(i+1)*2 then us1[t-i*2]! else us[t-2]!):
  F.toList.take ((n+1)*2)=us.take (i*2)++us1++us.drop (i*2):=by
 have l1:zY (us.take (i*2))=i*2:=by rw[zD];omega
 apply xw
 ·rw[zD,zh,zh,l1,zV,yo];omega
 ·intro t q1 q2;have ht:t<(n+1)*2:=by rw[zD]at q1;omega
  have e:=h t ht;rw[getElem!_pos F t au]at e;rw[xK,Array.getElem_toList,e];by_cases c1:t<i*2
  ·rw[bB c1,wB (by rw[zh];omega),wB au,xK,getElem!_pos us t au]
  ·rw[bL c1];by_cases c2:t<(i+1)*2
   ·rw[bB c2,wB (by rw[zh];omega),wC au,getElem!_pos us1 _ au]
    congr 1
    omega
   ·rw[bL c2,wC (by rw[zh];omega),xS,getElem!_pos us _ au]
    congr 1
    rw[zh];omega
def atV:∃i,vp.info? 47=V i/\i.zero=V (.agg #[.slice G 0 0, .int .i64 0])/\i.size=2/\i.bytes=32:=by
 have h:(vp.info? 47).map (λi=>(i.zero,i.size,i.bytes))=V (V (.agg #[.slice G 0 0, .int .i64 0]),2,32):=aY;simp_all
def auY(l b1 b:af aC)(n:Int)(hb:Vo n l b1=V b):N4 vp 125 [.own 0, .n .i64 n, .own 1] [(0, .row 47 l),(1, .row 47 b1)] 2 (fZ vp 125 2 (d125.pat b)):=by
 unfold Vo at hb;split at hb
 case isFalse=>cases hb
 rename_i hn;obtain⟨hn0,hn1,hn2,hn3⟩:=hn;obtain⟨i,rfl⟩:∃i:Nat,n=(i:Int):=⟨n.toNat,au⟩;rw[zg]at hb;have hbl:b=l.take i++b1++l.drop i:=(zF.inj hb).symm;have hin:i<=zY l:=au;have hlen:zY b=zY l+1:=by rw[hbl];simp;omega
 intro ρ;have ho:fZ vp 125 2 (d125.pat b)=⟨.own 2,[(2, .row 47 b)],3⟩:=aY;show Go.Iv.Fn vp 125 [(b7.own 0).sub ρ,(b7.n .i64 (i:Int)).sub ρ,(b7.own 1).sub ρ] (bt.res ρ [(0, .row 47 l),(1, .row 47 b1)]) _;rw[ho,dx,dx,show (b7.n (de:=uni.de) .i64 (i:Int)).sub ρ= .n .i64 (i:Int)by simp[b7.sub]];intro w A vs hr hd hnd;obtain⟨hr1,hr2⟩:=hr;obtain⟨v,v2,v1,rfl⟩:∃v v2 v1,vs=[v,v2,v1]:=by
  match vs,hr1 with
  |[v,v2,v1],_=>exact⟨v,v2,v1,rfl⟩
 have hv:v=ρ.v 0:=(hr2 0 _ v rfl rfl).cL;have hv1:v1=ρ.v 1:=(hr2 2 _ v1 rfl rfl).cL;have hv2:v2= .int .i64 (i:Int):=(hr2 1 _ v2 rfl rfl).cL;subst hv hv1 hv2;have hσ:bt.res ρ [(0, .row 47 l),(1, .row 47 b1)]=[cc.row (ρ.v 0) 47 l,cc.row (ρ.v 1) 47 b1]:=rfl;rw[hσ]at hd hnd ⊢;clear hr1 hr2 hσ;generalize hv:ρ.v 0=v at*;generalize hv1:ρ.v 1=v1 at*;obtain⟨us,g1,g2,g3⟩:=hd.1 (.row v 47 l) (zk ..);obtain⟨us1,k1,k2,k3⟩:=hd.1 (.row v1 47 b1) (zL _ (zo.2 rfl));have g1:gh w v 47 2 (zY l) us:=g1;have k1:gh w v1 47 2 (zY b1) us1:=k1;have g0:zY us=zY l*2:=g1.1;have k0:zY us1=zY b1*2:=k1.1;obtain⟨d,d1,d2,d3⟩:=Wz g0 g3;obtain⟨e,e1,e2,e3⟩:=Wz k0 k3;have hb1:zY b1=1:=au;rw[hb1]at k0 k1;have hus:us=d.toList.flatMap oL:=by
  have:=Gq ku d.toList;simp_all
 have hus1:us1=e.toList.flatMap oL:=by
  have:=Gq ku e.toList;simp_all
 obtain⟨D,hD⟩:∃D:af (Ob A w),D=d.toList.take i++e.toList++d.toList.drop i:=⟨_,rfl⟩;have hDb:(D.map λx=>x.1.1)=b:=by rw[hD,zO,zO,xL,xB,d2,e2,hbl]
 have hDf:D.flatMap oL=us.take (i*2)++us1++us.drop (i*2):=by
  rw[hus,hus1,YI ku,LJ ku,hD,xR,xR]
 obtain⟨r1,r2⟩:=Vv D.toArray b (by simpa using hDb);rw[Gq ku,hDf]at r1 r2;have hbks:∀x,x∈bC [cc.row v 47 l,cc.row v1 47 b1]↔gD v=V x\/gD v1=V x:=λx=>by
  rw[bQ];constructor
  ·rintro⟨r,hr,hx⟩;rcases zx.1 hr with rfl|hr
   ·exact .inl hx
   ·rw[zo.1 hr]at hx;exact .inr hx
  ·rintro(h|h)
   ·exact⟨_,zk ..,h⟩
   ·exact⟨_,zL _ (zo.2 rfl),h⟩
 have fin:∀(w':World) (u:Value),gh w' u 47 2 (zY l+1) (us.take (i*2)++us1++us.drop (i*2))->(∀x,gD u=V x->gD v=V x\/w.heap.size<=x)->Kp (bC [cc.row v 47 l,cc.row v1 47 b1]) w w'->∃v_1 av σ',Ending.returned u=Ending.returned v_1/\
   (∃ρ',qC 2 ρ ρ'/\av=(b7.own (de:=uni.de) 2).sub ρ'/\List.Perm σ' (bt.res ρ' [(2, .row 47 b)]))/\Tr ⟨w,A,bC [cc.row v 47 l,cc.row v1 47 b1]⟩ (bC [cc.row v 47 l,cc.row v1 47 b1]) [cc.row v 47 l,cc.row v1 47 b1] w σ' w'/\Rel (al ⟨w,A,bC [cc.row v 47 l,cc.row v1 47 b1]⟩ σ') w' av v_1:=λw' u hrow hu hk=>by
  have hbu:∀x,x∈bC [cc.row u 47 b]->x∈bC [cc.row v 47 l,cc.row v1 47 b1]\/w.heap.size<=x:=λx hx=>by
   obtain⟨r,hr,hx⟩:=bQ.1 hx;rw[zo.1 hr]at hx;exact(hu x hx).imp (λh=>(hbks x).2 (.inl h)) id
  refine⟨u, .lit u,[cc.row u 47 b],rfl,⟨⟨λj=>if j=2 then u else ρ.v j,ρ.b⟩,λj hj=>⟨by show _=if j=2 then u else ρ.v j;rw[bL au],rfl⟩,by rw[dx];rfl,List.Perm.refl _⟩,⟨⟨hk,?_,?_,?_⟩,hk,λx hx h=>⟨⟨h.1,λhx2=> ?_⟩,h.2⟩⟩, .lit u⟩
  ·intro r hr;rw[zo.1 hr];refine⟨us.take (i*2)++us1++us.drop (i*2),by have h:=hrow;rw[<-hlen]at h;exact h,λj _=>rfl,λj hj=>(r2 j hj).mono λx hx hA=> ?_⟩;have hnb:x∉bC [cc.row v 47 l,cc.row v1 47 b1]:=λh=>hd.2 x h hA;exact⟨⟨.inl hA,λh=>(hbu x h).elim hnb au⟩,hk.block x hx hnb⟩
  ·unfold bC;simp only[xE];cases cc.blk (cc.row u 47 b)<;>simp
  ·exact hbu
  ·exact(hbu x hx2).elim h.2 au
 rcases k1.2 with ⟨p,_,h0⟩|⟨vb,vc,vcur,hvv,hvg,_,_,hvs,hvt⟩
 ·cases h0
 subst hvv;have hvw:vb<w.heap.size:=(y8.1 hvg).1;have hone1:∀x∈us1,x.oneCell'=J:=by
  rw[hus1];intro x hx;obtain⟨y,_,hy⟩:=xJ.1 hx;exact Ep y x hy
 have honec:∀x∈us,x.oneCell'=J:=by
  rw[hus];intro x hx;obtain⟨y,_,hy⟩:=xJ.1 hx;exact Ep y x hy
 have hvc:∀j x,us1[j]? =V x->w.cell? ⟨vb,0+j,G⟩=V x:=λj x hj=>by rw[yj];exact k1.cells rfl j x hj
 have m64:maxLen=9223372036854775807:=rfl;obtain⟨i0,i1,i2,i3,i4⟩:=atV;by_cases hend:i=zY l
 ·subst hend;obtain⟨v',W,hrun,hrow,hkp,hblk⟩:=qF (P:=vp) (ty:=50) underlying50 i1 i2 i3 i4 (by rfl) g1 (xs:= .slice (V ⟨vb,0,G⟩) 1 (vc+1)) (news:=us1) ⟨_,_,rfl, .inr ⟨_,rfl,λj x hj=>by rw[Addr.add_lit];exact hvc j x hj⟩⟩ au hone1 au au;obtain⟨q,cap,hvq,hcap,hc63,hnil⟩:∃q cap,v= .slice q (zY l) cap/\zY l<=cap/\cap<=9223372036854775807/\(q=G->zY l=0/\cap=0):=by
   rcases g1.2 with ⟨p,hp,h0⟩|⟨g,c',cur,hp,_,hc1,hc,_⟩
   ·exact⟨p,0,by rw[hp,h0],au,au,λ_=>⟨h0,rfl⟩⟩
   ·exact⟨_,c'+1,hp,hc1,au,λh=>by cases h⟩
  subst hvq;refine(Sr (P:=vp) func125 aY underlying3 Tryz.isAgg3 Tryz.sizeOf3 Tryz.zeroValue3 underlying4 Tryz.isAgg4 Tryz.sizeOf4 Tryz.zeroValue4 underlying50 Tryz.isAgg50 Tryz.sizeOf50 Tryz.zeroValue50 2 Tryz.sizeOf47 q (zY l) cap vb 0 (vc+1) w W v' hcap hc63 hnil hrun).mono λe w' he=> ?_;obtain⟨rfl,rfl⟩:=he;refine fin _ _ ?_ (λx hx=> ?_) ⟨hkp.os,hkp.tape,hkp.output,hkp.drawn,hkp.size,λx hx hn=>hkp.block x hx λh=>hn ((hbks x).2 (.inl ?_))⟩
  ·rw[<-g0,zy,wP,yu];exact hrow
  ·rcases hblk with h|h
   ·rw[h]at hx;exact .inl hx
   ·rw[h]at hx;cases hx;exact .inr (zl _)
  ·simpa using h
 ·have hlt:i<zY l:=au;rcases g1.2 with ⟨p,_,h0⟩|⟨g,cap,cur,hvq,hg,q1,q2,q3,q4⟩
  ·omega
  subst hvq;have hgs:g<w.heap.size:=(y8.1 hg).1;have hcs:∀j x,us[j]? =V x->w.cell? ⟨g,0+j,G⟩=V x:=λj x hj=>by rw[yj];exact g1.cells rfl j x hj
  have hne:vb≠g:=λe=>by
   subst e;simp[bC,cc.blk,gD]at hnd
  have curus:∀t,t<zY l*2->cur[t]! =us[t]! :=λt ht=>by
   have h:(cur.toList.take (zY l*2))[t]? =us[t]? :=congrArg (λz:af Value=>z[t]?) q4;rw[wu ht,wQ,y9 au,zm au]at h;rw[getElem!_pos cur t au,getElem!_pos us t au];exact zF.inj h
  by_cases hroom:zY l+1<=cap+1
  ·refine(MX (P:=vp) func125 func197 aY underlying3 Tryz.isAgg3 Tryz.sizeOf3 Tryz.zeroValue3 underlying4 Tryz.isAgg4 Tryz.sizeOf4 Tryz.zeroValue4 underlying50 Tryz.isAgg50 Tryz.sizeOf50 Tryz.zeroValue50 2 (by decide) Tryz.sizeOf47 g 0 (zY l) (cap+1) i vb 0 (vc+1) us us1 w hlt hroom au hne g0 au hcs
    (λj hj=>by simp only[World.cell?,hg,vk,yy,IY];rw[y9 au];rfl) (λj hj=>by simp[World.frozen?,hg]) hvc honec hone1 47 47 vcur.size cur.size (by simp[World.shape?,hvg]) (by simp[World.shape?,hg]) au (by simp[World.frozen?,hvg]) (by simp[World.frozen?,hvg])).mono λe w' he=> ?_
   obtain⟨rfl,rfl⟩:=he;refine fin _ _ ⟨by simp;omega, .inr ⟨g,cap,_,rfl,gL _ _ _ _ (gL _ _ _ _ hg),hroom,q2,by simp[q3],?_⟩⟩ (λx hx=> .inl (by cases hx;rfl)) ?_
   ·refine Wg g0 au hin (by simp[q3];omega) λt ht=> ?_;rw[get_setMany _ _ _ t (by simp[q3];omega),get_setMany _ _ _ t (by rw[q3];omega),zV];simp only[yj,k0,g0];by_cases c1:t<i*2
    ·rw[bL au,bL au,bB c1,curus t au]
    ·by_cases c2:t<(i+1)*2
     ·rw[bB au,bL c1,bB c2]
     ·rw[bL au,bB au,bL c1,bL c2,getElem!_pos _ _ (by rw[zV];omega),xS,getElem!_pos us _ au]
      congr 1
      omega
   ·exact Kp.trans (X:=bC [cc.row (.slice (V ⟨g,0,G⟩) (zY l) (cap+1)) 47 l,cc.row (.slice (V ⟨vb,0,G⟩) 1 (vc+1)) 47 b1]) (Y:=[g]) (Kp.trans (w1:=w.drew) (Y:=[g]) ⟨rfl,rfl,rfl,yd _,zl _,λ_ _ _=>rfl⟩ (jg _ _ _) λx hx _=>(hbks x).2 (.inl (by rw[zo.1 hx];rfl))) (jg _ _ _) λx hx _=>(hbks x).2 (.inl (by rw[zo.1 hx];rfl))
  ·have hG:=grownCap_ge w (zY l+1) (cap+1) 47;have hG2:=grownCap_le_maxLen w (zY l+1) (cap+1) 47 au;refine(OB (P:=vp) func125 aY underlying3 Tryz.isAgg3 Tryz.sizeOf3 Tryz.zeroValue3 underlying4 Tryz.isAgg4 Tryz.sizeOf4 Tryz.zeroValue4 underlying50 Tryz.isAgg50 Tryz.sizeOf50 Tryz.zeroValue50 i0 _ i1 i2 au (by rw[i3];rfl) 2 i3 Tryz.sizeOf47 g 0 (zY l) (cap+1) i vb 0 (vc+1) us us1 w hlt q1 au au (by rw[i4];omega) g0 au hcs hvc honec hone1 hgs hvw).mono λe w' he=> ?_;obtain⟨rfl,rfl⟩:=he;obtain⟨za,hGe⟩:∃za,grownCap w (zY l+1) (cap+1) 47=za+1:=⟨grownCap w (zY l+1) (cap+1) 47-1,au⟩;rw[hGe]at hG hG2 ⊢;have hzc:∀m,(Builtin.zeroCells (Value.agg #[.slice G 0 0, .int .i64 0]).cells m).size=m*2:=λm=>by rw[size_zeroCells];rfl
   have hRs:((us.take (i*2)).toArray++Builtin.zeroCells (Value.agg #[.slice G 0 0, .int .i64 0]).cells (zY l+1-i)++Builtin.zeroCells (Value.agg #[.slice G 0 0, .int .i64 0]).cells (za+1-(zY l+1))).size=(za+1)*2:=by
    simp only[Array.size_append,y4,zD,hzc];omega
   obtain⟨ROW,hROW⟩:∃ROW:Array Value,ROW=(us.take (i*2)).toArray++Builtin.zeroCells (Value.agg #[.slice G 0 0, .int .i64 0]).cells (zY l+1-i)++Builtin.zeroCells (Value.agg #[.slice G 0 0, .int .i64 0]).cells (za+1-(zY l+1)):=⟨_,rfl⟩;rw[<-hROW]at hRs ⊢;have hR1:∀t,t<i*2->ROW[t]! =us[t]! :=λt ht=>by
    rw[getElem!_pos ROW t au,getElem!_pos us t au];simp only[hROW];rw[Array.getElem_append_left (by simp;omega),Array.getElem_append_left (by simp;omega)];simp
   refine fin _ _ ⟨by simp;omega, .inr ⟨w.heap.size,za,_,rfl,gL (T:=47) _ _ (((w.alloc (.cells ROW 47)).drew.setCells w.heap.size (i*2) us1).drew) _ (gL (T:=47) _ _ ((w.alloc (.cells ROW 47)).drew) ROW (heap_alloc w _)),hG,hG2,by simp[hRs],?_⟩⟩ (λx hx=> .inr (by cases hx;exact zl _)) ?_
   ·refine Wg g0 au hin (by simp[hRs];omega) λt ht=> ?_;rw[get_setMany _ _ _ t (by simp[hRs];omega),get_setMany _ _ _ t (by rw[hRs];omega),zV];by_cases c1:t<i*2
    ·rw[bL au,bL au,bB c1,hR1 t c1]
    ·by_cases c2:t<(i+1)*2
     ·rw[bL au,bB au,bL c1,bB c2]
     ·rw[bB au,bL c1,bL c2,getElem!_pos _ _ (by rw[zV];omega),xS,getElem!_pos us _ au]
      congr 1
      omega
   ·refine Kp.trans (X:=bC [cc.row (.slice (some ⟨g,0,none⟩) (zY l) (cap+1)) 47 l,cc.row (.slice (some ⟨vb,0,none⟩) 1 (vc+1)) 47 b1]) (w1:=(w.alloc (.cells ROW 47)).drew) (Y:=[w.heap.size]) ⟨rfl,rfl,rfl,yd w.drawn,by show _<=(w.heap.push _).size;rw[Array.size_push];exact yd _,λx hx _=>by show (w.heap.push _)[x]? =_;rw[Array.getElem?_push,bL au]⟩ (Kp.trans (w1:=((w.alloc (.cells ROW 47)).drew.setCells w.heap.size (i*2) us1).drew) (Y:=[w.heap.size]) (Kp.trans (Y:=[]) (jg _ _ _) (Kp.drew _) λx hx _=>by cases hx) (jg _ _ _) λx hx _=>hx) λx hx hlt=>by rw[zo.1 hx]at hlt;omega
def ayV:aqW:=λg b hb=>auY g.2.1 g.2.2.1 b g.1.2.1 hb
end Go.Proofs.YtnfljbehcffmcaaGreat
end
noncomputable section
set_option maxRecDepth 100000
namespace Go.Proofs.YtnfljbehcffmcaaGreat
open Go Go.Iv
open Go.IntKind (i64 u64)
def KH:Td 0 lB:=dB 124
def aiN(p:lB):aa (aa lB):=nB agl p
def VV:=bI (aiN)
abbrev apP:=Int×Bool
def ax5:Td 0 apP:=dBs
def Xq(a0:af aC)(a1:aC):aa apP:=mB agl a0 a1
def azF:=eL vp 123 O (lc (ql 47) (lc (qg 47) (lc (qf 124 ln) ln))) ax5 (λg=>Xq g.1 g.2.1)
def afF:EO azF:=λh=>kL (an:=(noTwo (noTwo (noTwo (.two (KH.lp VV .no) .no))))) (l:=[(bk f123 0,(KH.lp VV .no))]) func123 (Xt aV) (aA (aO KH) aH) h
abbrev aAL:=aC×Bool
def d122:Td 0 aAL:= .c [] [6,7] (.r 0 2 (ec 6 (qp 0 0) (ec 7 qb en)) (sb 0 47 (lc (qo 1) (aU ln)) (sr 1 3 sn)) (λz=>((aC.mk z.t.1 z.2.1.2.1),z.1.2.1)) (λx=>(((),x.2,()),(((),x.1.aI,()),x.1.aM,()))))
def TM(a0:aS)(a1:bU)(a2:af aK):aa aAL:=
 match m37 a0 a1 a2 with|G=>G|V r1=>V (r1)
def T2:=eL vp 122 O (lc (qg 26) (lc (qg 29) (lc (ql 34) ln))) d122 (λg=>TM g.1 g.2.1 g.t.1)
def ah2:EO T2:=λh=>kL (an:= .no) func122 (asN aV) aH h
abbrev ayI:=Int
def d126:Td 0 ayI:= .c [] [6] (.r 0 0 (ec 6 aP en) sn (λz=>z.1.1) (λx=>((x,()),(()))))
def ak8(a0:aS)(a1:bU)(a2:af aK):aa ayI:=
 match m38 a0 a1 a2 with|G=>G|V r1=>V (r1)
def akY:=eL vp 126 O (lc (qg 26) (lc (qg 29) (lc (ql 34) ln))) d126 (λg=>ak8 g.1 g.2.1 g.t.1)
def ami:EO akY:=λh=>kL (an:= .no) func126 (avZ aV) aH h
structure DN where
 t8:List aC
 t9:List Bool
 t73:List Part
 (t74 t75:Int)
 b0:aS
 b1:bU
 (b2 b3:aW)
def ae2:Td 0 DN:= .c [] [3,4,6,7,8,9,73,74,75] (.t (b6.c 3 1 [] 117) (.c [] [3,4,6,7,8,9,73,74,75] (.r 0 8 (ec 3 (qp 0 0) (ec 4 (qp 1 0) (ec 6 (qp 2 0) (ec 7 (qp 3 0) (ec 8 (qo 4) (ec 9 (qo 5) (ec 73 (ql 90) (ec 74 aP (ec 75 aP en))))))))) (sb 0 26 (lg 26) (sb 1 29 (lg 29) (sb 2 84 (lc qn (lc qn ln)) (sb 3 84 (lc (qo 6) (lc (qo 7) ln)) (sr 4 47 (sr 5 4 (sr 6 47 (sr 7 117 sn)))))))) (λz=>⟨z.q.2.1,z.q.t.1,z.1.q.t.1,z.1.q.t.2.1,z.1.q.q.1,z.2.1,z.t.1,(aW.mk [] []),(aW.mk z.q.t.2.1 z.q.q.1)⟩) (λx=>(((),(),(),(),(),(),x.t73,x.t74,x.t75,()),(x.b0,x.b1,((),(),()),((),(),()),x.t8,x.t9,x.b3.cv,x.b3.aN,()))))))
def Oa{α:Type}(p:DN)(go:DN->aa α)(e1:aa α):aa α:=
 bif vn (p.t75<p.t74)then if 0<=p.t75/\p.t75<zY p.t73 then match ak8 p.b0 p.b1 p.t73[zq p.t75]!.dw with|G=>G|V r4=>if 0<=p.t75/\p.t75<zY p.t9 then if 4=4/\zq p.t75<zY p.t9 then bif p.t9[zq p.t75]! then if 0<=p.t75/\p.t75<zY p.t8 then if 47=47/\zq p.t75<zY p.t8 then match Xq p.b3.cv p.t8[zq p.t75]! with|G=>G|V r5=>if(p.b3.aN++[Cell.mk p.t73[zq p.t75]!.aZ p.t73[zq p.t75]!.eN p.t73[zq p.t75]!.aq [r5.fst] r4]).length<=1073741824 then go (DN.mk p.t8 p.t9 p.t73 p.t74 (ak (p.t75+1)) p.b0 p.b1 (aW.mk [] []) (aW.mk p.b3.cv (p.b3.aN++[Cell.mk p.t73[zq p.t75]!.aZ p.t73[zq p.t75]!.eN p.t73[zq p.t75]!.aq [r5.fst] r4])))else G else G else G else if(p.b3.aN++[Cell.mk p.t73[zq p.t75]!.aZ p.t73[zq p.t75]!.eN p.t73[zq p.t75]!.aq [] r4]).length<=1073741824 then go (DN.mk p.t8 p.t9 p.t73 p.t74 (ak (p.t75+1)) p.b0 p.b1 (aW.mk [] []) (aW.mk p.b3.cv (p.b3.aN++[Cell.mk p.t73[zq p.t75]!.aZ p.t73[zq p.t75]!.eN p.t73[zq p.t75]!.aq [] r4])))else G else G else G else G else e1
def X0(p:DN):aa (aa DN):=
 Oa p (λs=>V (V s)) (V G)
def Wf:=bI (X0)
structure Bq where
 t2:List Part
 t8:List aC
 t9:List Bool
 t25:List Part
 (t26 t27:Int)
 b0:aS
 b1:bU
 (b2 b3:aW)
def agf:Td 0 Bq:= .c [] [2,3,4,6,7,8,9,25,26,27] (.t (b6.c 3 0 [] 47) (.c [] [2,3,4,6,7,8,9,25,26,27] (.r 0 7 (ec 2 (ql 90) (ec 3 (qp 0 0) (ec 4 (qp 1 0) (ec 6 (qp 2 0) (ec 7 (qp 3 0) (ec 8 (qo 4) (ec 9 (qo 5) (ec 25 (ql 90) (ec 26 aP (ec 27 aP en)))))))))) (sb 0 26 (lg 26) (sb 1 29 (lg 29) (sb 2 84 (lc qn (lc qn ln)) (sb 3 84 (lc (qo 6) (lc qn ln)) (sr 4 47 (sr 5 4 (sr 6 47 sn))))))) (λz=>⟨z.1.1,z.q.2.1,z.q.t.1,z.1.q.t.2.1,z.1.q.q.1,z.1.q.q.2.1,z.2.1,z.t.1,(aW.mk [] []),(aW.mk z.q.t.2.1 [])⟩) (λx=>((x.t2,(),(),(),(),(),(),x.t25,x.t26,x.t27,()),(x.b0,x.b1,((),(),()),((),(),()),x.t8,x.t9,x.b3.cv,()))))))
def OI{α:Type}(p:Bq)(go:Bq->aa α)(e1:aa α):aa α:=
 bif vn (p.t27<p.t26)then if 0<=p.t27/\p.t27<zY p.t25 then match TM p.b0 p.b1 p.t25[zq p.t27]!.dw with|G=>G|V r1=>if 0<=p.t27/\p.t27<zY p.t8 then if 47=47/\zq p.t27<zY p.t8 then if 0<=p.t27/\p.t27<zY p.t9 then if 4=4/\zq p.t27<zY p.t9 then if 0<=p.t27/\p.t27<(↑(p.t9.set p.t27.toNat r1.snd).length:Int)then if 4=4/\zq p.t27<zY (p.t9.set p.t27.toNat r1.snd) then bif(p.t9.set p.t27.toNat r1.snd)[zq p.t27]! then if 0<=p.t27/\p.t27<(↑(p.t8.set p.t27.toNat r1.fst).length:Int)then if 47=47/\zq p.t27<zY (p.t8.set p.t27.toNat r1.fst) then match Xq p.b3.cv (p.t8.set p.t27.toNat r1.fst)[zq p.t27]! with|G=>G|V r2=>bif bif r2.snd then O else J then if 0<=p.t27/\p.t27<(↑(p.t8.set p.t27.toNat r1.fst).length:Int)then if 47=47/\zq p.t27<zY (p.t8.set p.t27.toNat r1.fst) then match Vo r2.fst p.b3.cv [(p.t8.set p.t27.toNat r1.fst)[zq p.t27]!]with|G=>G|V r3=>go (Bq.mk p.t2 (p.t8.set p.t27.toNat r1.fst) (p.t9.set p.t27.toNat r1.snd) p.t25 p.t26 (ak (p.t27+1)) p.b0 p.b1 (aW.mk [] []) (aW.mk r3 []))else G else G else go (Bq.mk p.t2 (p.t8.set p.t27.toNat r1.fst) (p.t9.set p.t27.toNat r1.snd) p.t25 p.t26 (ak (p.t27+1)) p.b0 p.b1 (aW.mk [] []) (aW.mk p.b3.cv []))else G else G else go (Bq.mk p.t2 (p.t8.set p.t27.toNat r1.fst) (p.t9.set p.t27.toNat r1.snd) p.t25 p.t26 (ak (p.t27+1)) p.b0 p.b1 (aW.mk [] []) (aW.mk p.b3.cv []))else G else G else G else G else G else G else G else e1
def WE(p:Bq):aa (aa Bq):=
 OI p (λs=>V (V s)) (V G)
def YC:=bI (WE)
abbrev E57:=aW
def d57:Td 0 E57:= .c [] [6] (.r 0 3 (ec 6 (qp 0 0) en) (sb 0 84 (lc (qo 1) (lc (qo 2) ln)) (sr 1 47 (sr 2 117 sn))) (λz=>(aW.mk z.t.1 z.t.2.1)) (λx=>(((),()),(((),(),()),x.cv,x.aN,()))))
def m57(a0:aS)(a1:bU)(a2:af Part):aa E57:=
 if(0:Int)<=zY a2/\(zY a2:Int)<=(zY a2:Int)/\(zY a2:Int)<=(1073741824:Int)then if(0:Int)<=zY a2/\(zY a2:Int)<=(zY a2:Int)/\(zY a2:Int)<=(1073741824:Int)then match YC (Bq.mk a2 (zf (zY a2) (aC.mk [] (0))) (zf (zY a2) O) a2 (zY a2) 0 a0 a1 (aW.mk [] []) (aW.mk [] []))with|G=>G|V r6=>OI r6 (λ_=>G) (match Wf (DN.mk r6.t8 r6.t9 r6.t2 (zY r6.t2) 0 r6.b0 r6.b1 (aW.mk [] []) (aW.mk r6.b3.cv []))with|G=>G|V r10=>Oa r10 (λ_=>G) (V (r10.b3)))else G else G
def e57:bu->bu:=eZ vp 57 (lc (qg 26) (lc (qg 29) (lc (ql 90) ln))) d57 (λg=>m57 g.1 g.2.1 g.t.1)
def ath:EO e57:=λh=>kZ (an:=(noTwo (noTwo (noTwo (noTwo (.two (noTwo (agf.lp YC .no)) (.two (noTwo (ae2.lp Wf .no)) .no))))))) (l:=[(bk f57 0,(agf.lp YC .no)),(bk f57 1,(ae2.lp Wf .no))]) func57 (ami (abV ayV (Xt (afF (ah2 aV))))) (aA (aO agf) (aA (aO ae2) aH)) h
def acy{F:bu}{f:Nat}(hne:zc f 57=O)(h:bA F f):bA (e57 F) f:=AM hne h
def SV:Td 0 (LE aC aC):=dE 47 47 31
def avR(p:(LE aC aC)):aa (aa (LE aC aC)):=nE m31 p
def ad0:=bI (avR)
abbrev azA:=Bool
def aFY:Td 0 azA:=dEq
def asG(a0:af aC)(a1:af aC):aa azA:=mE m31 a0 a1
def acX:=eL vp 71 J (lc (ql 47) (lc (ql 47) (lc (qf 31 ln) ln))) aFY (λg=>asG g.1 g.2.1)
def alB:EO acX:=λh=>kL (an:=(noTwo (noTwo (.two (noTwo (SV.lp ad0 .no)) .no)))) (l:=[(bk f71 0,(SV.lp ad0 .no))]) func71 (abO aV) (aA (aO SV) aH) h
def KB:EP acX:=λh=>kP h
def ayX:bu:=(e77 dA)
abbrev azU:=Bool
def d121:Td 0 azU:= .c [] [4] (.r 0 0 (ec 4 qb en) sn (λz=>z.1.1) (λx=>((x,()),(()))))
def aAJ:∀f∈([77]:af Nat),bA (ayX) f:=(aA (QW bG) aH)
def asm(a0:Cell)(a1:Cell):aa azU:=
 match bif vn (a0.aZ=a1.aZ)then bif vn (a0.eN=a1.eN)then bif vn (a0.fU=a1.fU)then match m77 a0.aq a1.aq with|G=>G|V r1=>bif r1 then match m77 a0.cv a1.cv with|G=>G|V r2=>V (r2)else V (O)else V (O)else V (O)else V (O)with|G=>G|V r3=>V (r3)
def atd:=eL vp 121 O (lc (qg 117) (lc (qg 117) ln)) d121 (λg=>asm g.1 g.2.1)
def VE:EO atd:=λh=>kL (F:=ayX) (an:=(noTwo (.two (.rb [77] 4) .no))) (l:=[(.skip,(.rb [77] 4))]) func121 (abe aV) (aA aAJ aH) h
def Kf:EP atd:=λh=>kP h
def Mh:Td 0 (LE Cell Cell):=dE 117 117 121
def alZ(p:(LE Cell Cell)):aa (aa (LE Cell Cell)):=nE asm p
def Yq:=bI (alZ)
abbrev aqF:=Bool
def aBs:Td 0 aqF:=dEq
def aet(a0:af Cell)(a1:af Cell):aa aqF:=mE asm a0 a1
def Q5:=eL vp 120 J (lc (ql 117) (lc (ql 117) (lc (qf 121 ln) ln))) aBs (λg=>aet g.1 g.2.1)
def abt:EO Q5:=λh=>kL (an:=(noTwo (noTwo (.two (noTwo (Mh.lp Yq .no)) .no)))) (l:=[(bk f120 0,(Mh.lp Yq .no))]) func120 (VE aV) (aA (aO Mh) aH) h
def Fz:EP Q5:=λh=>kP h
def F56:bu:=(atd (Q5 (aau (acX (e71 (e31 dA))))))
abbrev E56:=Bool
def d56:Td 0 E56:= .c [] [4] (.r 0 0 (ec 4 qb en) sn (λz=>z.1.1) (λx=>((x,()),(()))))
def aHi:∀f∈([71,120]:af Nat),bA (F56) f:=(aA (Kf (Fz (Jo (KB (Ot (Qk bG)))))) (aA (Kf (Fz (Jo (KB (Ot (Qk bG)))))) aH))
def m56(a0:aW)(a1:aW):aa E56:=
 match match asG a0.cv a1.cv with|G=>G|V r1=>bif r1 then match aet a0.aN a1.aN with|G=>G|V r2=>V (r2)else V (O)with|G=>G|V r3=>V (r3)
def e56:=eL vp 56 O (lc (qg 84) (lc (qg 84) ln)) d56 (λg=>m56 g.1 g.2.1)
def arS:EO e56:=λh=>kL (F:=F56) (an:=(noTwo (.two (.rb [71,120] 4) .no))) (l:=[(.skip,(.rb [71,120] 4))]) func56 (VE (abt (AJ (alB (FT (abO aV)))))) (aA aHi aH) h
def adj:EP e56:=λh=>kP h
abbrev E63:=Bool
def d63:Td 0 E63:= .c [] [4] (.r 0 0 (ec 4 qb en) sn (λz=>z.1.1) (λx=>((x,()),(()))))
def m63(a0:af aK)(a1:Part):aa E63:=
 match m64 a0 a1.dw with|G=>G|V r1=>V (r1)
def e63:=eL vp 63 O (lc (ql 34) (lc (qg 90) ln)) d63 (λg=>m63 g.1 g.2.1)
abbrev E62:=Bool
def d62:Td 0 E62:=dEq
def m62(a0:af (af aK))(a1:af Part):aa E62:=mE m63 a0 a1
def e62:=eL vp 62 J (lc (ql 30) (lc (ql 90) (lc (qf 63 ln) ln))) d62 (λg=>m62 g.1 g.2.1)
structure Jr where
 t10:List (List aK)
 t26:List dW
 (t27 t28:Int)
def aoR{α:Type}(p:Jr)(go:Jr->aa α)(e1:aa α):aa α:=
 bif vn (p.t28<p.t27)then if 0<=p.t28/\p.t28<zY p.t26 then if 174=174/\zq p.t28<zY p.t26 then match XD p.t26[zq p.t28]!.dw with|G=>G|V r1=>if(p.t10++[r1]).length<=1073741824 then go (Jr.mk (p.t10++[r1]) p.t26 p.t27 (ak (p.t28+1)))else G else G else G else e1
def aDI(p:Jr):aa (aa Jr):=
 aoR p (λs=>V (V s)) (V G)
def azw:=bI (aDI)
abbrev E61:=(af (af aK))×Int
def d61:Td 0 E61:= .c [] [6,7] (.t (b6.s 6 [] 30) (.c [] [6,7] (.r 0 1 (ec 6 (qo 0) (ec 7 aP en)) (sr 0 30 sn) (λz=>(z.2.1,z.1.2.1)) (λx=>(((),x.2,()),(x.1,()))))))
def m61(a0:aS)(a1:bU)(a2:aW):aa E61:=
 match It a0 a1 a2 with|G=>G|V r2=>bif bif vn (r2.snd=0)then O else J then V ([],r2.snd)else match azw (Jr.mk [] r2.fst.aN (zY r2.fst.aN) 0)with|G=>G|V r3=>aoR r3 (λ_=>G) (V (r3.t10,0))
def e61:bu->bu:=eZ vp 61 (lc (qg 26) (lc (qg 29) (lc (qg 84) ln))) d61 (λg=>m61 g.1 g.2.1 g.t.1)
def F12:bu:=(e63 (e62 (e61 (e57 (e56 (e47 (e46 (e45 dA))))))))
abbrev E12:=Bool
def d12:Td 0 E12:= .c [] [6] (.r 0 0 (ec 6 qb en) sn (λz=>z.1.1) (λx=>((x,()),(()))))
def A12:=(lc (qg 26) (lc (qg 29) (lc (ql 5) ln)))
def aEH:An:=(noTwo (noTwo (.two (.two (.rb [46,62] 22) .no) (noTwo (noTwo (noTwo (.two (.rb [46,62] 6) .no)))))))
def m12(a0:aS)(a1:bU)(a2:af Int):aa E12:=
 bif bif m45 then O else J then V O else match match m46 a0 a1 with|G=>G|V r1=>bif bif r1 then O else J then V J else V (vn (20<(zY a2:Int)))with|G=>G|V r2=>bif r2 then V J else match m47 a0 a1 a2 with|G=>G|V r3=>bif bif r3.snd.snd then O else J then V O else match m57 a0 a1 r3.fst with|G=>G|V r4=>match m56 r3.snd.fst r4 with|G=>G|V r5=>bif bif r5 then O else J then V O else match m61 a0 a1 r3.snd.fst with|G=>G|V r6=>match bif vn (r6.snd=0)then match m62 r6.fst r3.fst with|G=>G|V r7=>V (r7)else V O with|G=>G|V r8=>V (r8)
def c12(a0:aS)(a1:bU)(a2:af Int):bZ vp (F12) 300 (aEH) 12 (A12.c (a0,a1,a2,())) [] 0 d12.rd=m12 a0 a1 a2:=aY
def CR:∀(k:Nat) (a b:af Int),k<=zY a->k<=zY b->(∀j,j<k->a[j]! =b[j]!)->iD a b=iD (a.drop k) (b.drop k)
 |0,_,_,_,_,_=>rfl
 |k+1,[],_,h,_,_=>by simp at h
 |k+1,_::_,[],_,h,_=>by simp at h
 |k+1,x::a,y::b,h1,h2,h=>by
  have h0:=h 0 au;subst h0;rw[List.drop_succ_cons,List.drop_succ_cons,<-CR k a b (by simpa using h1) (by simpa using h2) λj hj=>by simpa using h (j+1) au];simp[iD]
def aky(x y:Int):Pz x y=if x<y then-1 else if y<x then 1 else 0:=by
 unfold Pz aaU;by_cases h:x<y
 ·simp[h]
 ·by_cases k:y<x<;>simp[h]
def amF(a b:aC)(ha:zY a.aM<=1000):agl a b=V (dM a b):=by
 obtain⟨i,-,e,hI,h⟩:=jq (rnd:=HG) (min (zY a.aM) (zY b.aM)) (λi (_:Unit)=>⟨(i:Int),a,b⟩) (λi _=>∀j,j<i->a.aM[j]! =b.aM[j]!) (λi _=>i<min (zY a.aM) b.aM.length/\a.aM[i]!≠b.aM[i]!) (λi _ hi hI=>by
  have hw:=wI (i:=i) (n:=1000) au au;have i1:(i:Int)<(zY a.aM:Int):=au;have i2:(i:Int)<(zY b.aM:Int):=au;have i3:(0:Int)<=(i:Int):=au;by_cases h:a.aM[i]! =b.aM[i]!
  ·refine .inl ⟨(),?_,λj hj=> ?_⟩
   ·unfold HG CZ;simp only[cG,cD,i1,i2,i3,h,cW,hw]
   ·by_cases e:j=i
    ·rw[e];exact h
    ·exact hI j au
  ·refine .inr ⟨?_,hi,h⟩;unfold HG CZ;simp only[cG,cD,i1,i2,i3,h,cW]) (λ_ _=>by
   unfold HG CZ;by_cases h:zY a.aM<=zY b.aM
   ·rw[Nat.min_eq_left h];simp
   ·rw[Nat.min_eq_right au];have:(zY b.aM:Int)<(zY a.aM:Int):=au;simp) (b:=()) λj hj=>au
 have e':K2 ⟨0,a,b⟩=V ⟨(i:Int),a,b⟩:=e;unfold agl CZ;simp only[e',aky];rcases h with hn|⟨hi,hd⟩
 ·have hd:=CR i a.aM b.aM au au hI;unfold dM;rw[hd];by_cases h1:(i:Int)<(zY a.aM:Int)
  ·have h2:¬(i:Int)<(zY b.aM:Int):=au;rw[yQ (l:=a.aM) au,show ya i b.aM=[]from List.drop_eq_nil_of_le au];have h3:¬(zY a.aM:Int)=(zY b.aM:Int):=au;have h4:¬(zY a.aM:Int)<(zY b.aM:Int):=au;have h5:(zY b.aM:Int)<(zY a.aM:Int):=au;simp only[cG,cD,gK,h1,h2,h3,h4,h5,iD,ne_eq,Int.one_ne_zero,not_false_eq_true]
  ·rw[show ya i a.aM=[]from List.drop_eq_nil_of_le au];by_cases h2:zY b.aM=i
   ·rw[show ya i b.aM=[]from List.drop_eq_nil_of_le au];have h3:(zY a.aM:Int)=(zY b.aM:Int):=au;rw[h3]at h1;simp only[cG,cD,h3,h1,iD,ne_eq,not_true,IY]
   ·rw[yQ (l:=b.aM) au];have h3:¬(zY a.aM:Int)=(zY b.aM:Int):=au;have h4:(zY a.aM:Int)<(zY b.aM:Int):=au;simp only[h1,h3,h4];rfl
 ·have hd':=CR i a.aM b.aM au au hI;have h1:(i:Int)<(zY a.aM:Int):=au;have h2:(i:Int)<(zY b.aM:Int):=au;rw[yQ (l:=a.aM) au,yQ (l:=b.aM) au,<-getElem!_pos a.aM i au,<-getElem!_pos b.aM i au]at hd';unfold dM;rw[hd'];simp only[zg,h1,h2,hd,iD];by_cases h4:a.aM[i]! <b.aM[i]!
  ·simp only[h4];rfl
  ·have h5:b.aM[i]! <a.aM[i]! :=au;simp only[h4,h5];rfl
def Oy(l:af aC):Prop:=l.Pairwise λx y=>dM x y<0
def Ns{a b c:aC}(h:dM a b<0)(k:dM b c<=0):dM a c<0:=by
 have h1:=ng a b c au k;by_cases e:dM a c=0
 ·have:=oz e;subst this;have:=dP a b;omega
 ·omega
def E8:∀{a b:af aC},Oy a->Oy b->(∀x,x∈a↔x∈b)->a=b
 |[],[],_,_,_=>rfl
 |[],y::b,_,_,h=>by have:=(h y).2 (zk ..);cases this
 |x::a,[],_,_,h=>by have:=(h x).1 (zk ..);cases this
 |x::a,y::b,ha,hb,h=>by
  obtain⟨a1,a2⟩:=x8.1 ha;obtain⟨b1,b2⟩:=x8.1 hb;have hxy:x=y:=by
   rcases zx.1 ((h x).1 (zk ..))with e|e
   ·exact e
   ·rcases zx.1 ((h y).2 (zk ..))with e2|e2
    ·simp_all
    ·have q1:=b1 x e;have q2:=a1 y e2;have:=dP x y;omega
  subst hxy;rw[E8 a2 b2 λz=>⟨λhz=> ?_,λhz=> ?_⟩]
  ·rcases zx.1 ((h z).1 (zL _ hz))with e|e
   ·subst e;have:=a1 z hz;rw[sX]at this;omega
   ·exact e
  ·rcases zx.1 ((h z).2 (zL _ hz))with e|e
   ·subst e;have:=b1 z hz;rw[sX]at this;omega
   ·exact e
def Pj:∀{l:af aC} {p:aC},(∀x∈l,dM p x<=0)->GC l->(∀x∈pZ p l,dM p x<0)/\Oy (pZ p l)/\∀x,x∈p::pZ p l↔x∈p::l
 |[],p,_,_=>⟨λx hx=>by simp[pZ]at hx,List.Pairwise.nil,λx=>by simp[pZ]⟩
 |y::l,p,hp,hs=>by
  obtain⟨s1,s2⟩:=x8.1 hs;obtain⟨i1,i2,i3⟩:=Pj (l:=l) (p:=y) s1 s2;unfold pZ;have hpy:=hp y (zk ..);have hn:=dP p y;split
  ·rename_i e;have e2:=oz e;subst e2;refine⟨i1,i2,λx=>(i3 x).trans ?_⟩;simp
  ·have hlt:dM p y<0:=au;refine⟨λx hx=> ?_,x8.2 ⟨i1,i2⟩,λx=> ?_⟩
   ·rcases zx.1 hx with rfl|hx
    ·omega
    ·exact Ns hlt (by have:=i1 x hx;omega)
   ·rw[zx,i3 x,zx (b:=p)]
def abB{l:af aC}(hs:GC l):Oy (Bd l)/\∀x,x∈Bd l↔x∈l:=by
 cases l with
 |nil=>exact⟨List.Pairwise.nil,λx=>Iff.rfl⟩
 |cons p l=>
  obtain⟨s1,s2⟩:=x8.1 hs;obtain⟨i1,i2,i3⟩:=Pj (l:=l) (p:=p) s1 s2;exact⟨x8.2 ⟨i1,i2⟩,i3⟩
def PZ(c:af dW):Oy (lT c)/\∀x,x∈lT c↔x∈nK c:=by
 obtain⟨h1,h2⟩:=abB (Q7 (nK c));exact⟨h1,λx=>(h2 x).trans (sR _).mem_iff⟩
def JI:∀{l:af aC},Oy l->∀o,l.take (kX l o)=l.filter (λx=>vn (dM x o<0))/\l.drop (kX l o)=l.filter (λx=> !vn (dM x o<0))
 |[],_,o=>⟨rfl,rfl⟩
 |x::l,h,o=>by
  obtain⟨h1,h2⟩:=x8.1 h;obtain⟨i1,i2⟩:=JI h2 o;unfold kX at i1 i2 ⊢;by_cases e:dM x o<0
  ·simp_all
  ·have hno:∀y∈l,¬dM y o<0:=λy hy hc=>e (by
    have q:=h1 y hy;exact Ns q au)
   have f1:l.filter (λy=>vn (dM y o<0))=[]:=wU.2 λy hy=>by simpa using hno y hy
   have f2:l.filter (λy=> !vn (dM y o<0))=l:=wV.2 λy hy=>by simpa using hno y hy
   rw[vi (by simpa using e),f1,vh (by simpa using e),f2];simp
def aho{l:af aC}(hs:Oy l){o:aC}(hn:IW l o=O):Oy (l.take (kX l o)++[o]++l.drop (kX l o))/\∀x,x∈l.take (kX l o)++[o]++l.drop (kX l o)↔x=o\/x∈l:=by
 obtain⟨e1,e2⟩:=JI hs o;have hne:∀y∈l,dM y o≠0:=λy hy he=>by
  unfold IW at hn;simp_all
 have m1:∀y∈l.take (kX l o),dM y o<0:=λy hy=>by
  simp_all
 have m2:∀y∈l.drop (kX l o),dM o y<0:=λy hy=>by
  have:=hne y (xD hy);rw[e2]at hy;have q:¬dM y o<0:=by simpa using (z8.1 hy).2
  have:=dP y o;omega
 have hl:∀x,x∈l↔x∈l.take (kX l o)\/x∈l.drop (kX l o):=λx=>by
  conv=>lhs;rw[<-xA (kX l o) l]
  exact zP
 constructor
 ·refine List.pairwise_append.2 ⟨List.pairwise_append.2 ⟨List.Pairwise.sublist (List.take_sublist ..) hs,List.pairwise_singleton ..,λa ha b hb=>by rw[zo.1 hb];exact m1 a ha⟩,List.Pairwise.sublist (List.drop_sublist ..) hs,λa ha b hb=> ?_⟩;rcases zP.1 ha with ha|ha
  ·have:=m2 b hb;exact Ns (m1 a ha) au
  ·rw[zo.1 ha];exact m2 b hb
 ·intro x;rw[hl,zP,zP,zo];constructor
  ·rintro((h|h)|h)
   ·exact .inr (.inl h)
   ·exact .inl h
   ·exact .inr (.inr h)
  ·rintro(h|h|h)
   ·exact .inl (.inr h)
   ·exact .inl (.inl h)
   ·exact .inr h
def anH{l:af aC}{o:aC}(h:IW l o=J):o∈l:=by
 obtain⟨x,h1,h2⟩:=wN.1 h;rw[<-oz (of_decide_eq_true h2)];exact h1
def ZP{c:af dW}{i:Nat}(h:i<zY c):lT (c.take (i+1))=if c[i]!.ep=J then if IW (lT (c.take i)) c[i]!.cv=J then lT (c.take i)else(lT (c.take i)).take (kX (lT (c.take i)) c[i]!.cv)++[c[i]!.cv]++(lT (c.take i)).drop (kX (lT (c.take i)) c[i]!.cv)else lT (c.take i):=by
 obtain⟨a1,a2⟩:=PZ (c.take (i+1));obtain⟨b1,b2⟩:=PZ (c.take i);have hs:=JV h;by_cases h1:c[i]!.ep=J
 ·rw[bB h1]at hs ⊢;split
  ·rename_i h2;refine E8 a1 b1 λx=> ?_;rw[a2,b2,hs,zP,zo];exact⟨λq=>q.elim id λq=>q▸(b2 _).1 (anH h2), .inl⟩
  ·rename_i h2;obtain⟨s1,s2⟩:=aho b1 (Bool.eq_false_iff.2 h2);refine E8 a1 s1 λx=> ?_;rw[s2,a2,b2,hs,zP,zo,or_comm]
 ·rw[bL h1]at hs ⊢;refine E8 a1 b1 λx=> ?_;simp_all
def Qj{l:af aC}(hs:GC l)(hl:zY l<=1000000)(o:aC)(ho:∀x∈l,zY x.aM<=1000):Xq l o=V ((kX l o:Int),IW l o):=ap3 hs hl o λx hx=>amF x o (ho x hx)
section
variable {f:aS} {v:bU}
def mW.TM{b:af aK}(h:mW f b)(c:Cx f v):TM f v b=V (BU f v b,Qv f v b)/\ak8 f v b=V (bdX f v b):=by
 have ha:=h.ask c;have hfit:=BK ha;have hbl:zY b<=1000000:=by have:=EH c;rw[h.len];omega
 have e23:=ax7 c.hN c.hh c.hl hfit;have e37:=azo e23 (Fa hfit);have e38:=ayF e23 (Fa hfit) hfit.nn hbl hfit.vol.2;unfold YtnfljbehcffmcaaGreat.TM YtnfljbehcffmcaaGreat.ak8;rw[e37,e38];unfold BU Qv bdX;cases sgB (fA f v b)<;>exact⟨rfl,rfl⟩
def atf(c:Cx f v){l:af Part}(h:WF f l)(hl:zY l<=8192):m57 f v l=V (uM (l.map (cellOf f v))):=by
 obtain⟨C,hC⟩:∃C,C=l.map (cellOf f v):=⟨_,rfl⟩;have hz:=J5 c h au;have hCl:zY C=zY l:=by rw[hC,zB]
 have hCg:∀i,i<zY l->C[i]! =cellOf f v l[i]! :=λi hi=>by rw[hC];exact gX _ _ _ hi
 rw[<-hC]at hz ⊢;have lo:∀i x,x∈lT (C.take i)->zY x.aM<=1000:=λi x hx=>by
  obtain⟨y,q1,_,rfl⟩:=PU hx;obtain⟨j,hj,rfl⟩:=xd (wJ q1);rw[<-getElem!_pos C j hj];exact hz.obs j hj
 have ll:∀i,zY (lT (C.take i))<=zY l:=λi=>by
  have h1:=PJ (C.take i);have h2:zY (C.take i)<=zY C:=by rw[zD];omega
  omega
 obtain⟨b1,e1,hb1⟩:=cS (rnd:=WE) (zY l) (λi (b:af aC×af Bool×af aC)=>⟨l,b.1,b.2.1,l,(zY l:Int),(i:Int),f,v,⟨[],[]⟩,⟨b.2.2,[]⟩⟩) (λi b=>zY b.1=zY l/\zY b.2.1=zY l/\(∀j,j<i->b.1[j]! =BU f v l[j]!.dw/\b.2.1[j]! =Qv f v l[j]!.dw)/\b.2.2=lT (C.take i)) (λi b hi hI=>by
  obtain⟨S,B,T⟩:=b;obtain⟨q1,q2,q3,q4⟩:=hI;dsimp only at q1 q2 q3 q4 ⊢;obtain⟨i1,i2,hw⟩:=w3 hi au;have T2:=((h.box i hi).TM c).1;have eS:(S.set i (BU f v l[i]!.dw))[i]! =BU f v l[i]!.dw:=by rw[dF _ _ _ _ au,bB rfl]
  have eB:(B.set i (Qv f v l[i]!.dw))[i]! =Qv f v l[i]!.dw:=by rw[dF _ _ _ _ au,bB rfl]
  have s1:zY (S.set i (BU f v l[i]!.dw))=zY l:=by rw[zI,q1]
  have s2:zY (B.set i (Qv f v l[i]!.dw))=zY l:=by rw[zI,q2]
  have Rv:=Qj (l:=T) (by rw[q4];exact Ht _) (by rw[q4];have:=ll i;omega) (BU f v l[i]!.dw) (λx hx=>lo i x (q4▸hx));have hTl:zY T<=1000000000:=by rw[q4];have:=ll i;omega
  have hT:=ZP (c:=C) (i:=i) au;rw[hCg i hi,<-q4]at hT;have k0:(0:Int)<=(kX T (BU f v l[i]!.dw):Int):=au;have k1:(kX T (BU f v l[i]!.dw):Int)<=(zY T:Int):=by
   have:kX T (BU f v l[i]!.dw)<=zY T:=yq _ _;omega
  have avk:Vo (kX T (BU f v l[i]!.dw):Int) T [BU f v l[i]!.dw]=V (T.take (kX T (BU f v l[i]!.dw))++[BU f v l[i]!.dw]++T.drop (kX T (BU f v l[i]!.dw))):=by
   unfold Vo;rw[bB ⟨k0,k1,hTl,rfl⟩,zg]
  refine⟨(S.set i (BU f v l[i]!.dw),B.set i (Qv f v l[i]!.dw),lT (C.take (i+1))),?_,s1,s2,λj hj=> ?_,rfl⟩
  ·rw[hT];unfold WE OI;cases hs:Qv f v l[i]!.dw with
   |true=>
    rw[hs]at T2 eB s2;cases hh:IW T (BU f v l[i]!.dw)with
    |true=>
     simp only[cG,cD,i1,i2,hi,cW,T2,q1,q2,s1,s2,eB,eS,Rv,hw,cellOf,hs,hh]
    |false=>
     simp only[cG,cD,gK,i1,i2,hi,T2,q1,q2,s1,s2,eB,eS,Rv,hw,cellOf,hs,hh,avk,yy]
   |false=>
    rw[hs]at T2 eB s2;simp only[cG,cD,gK,i1,i2,hi,T2,q1,q2,s1,s2,eB,hw,cellOf,hs,yy]
  ·dsimp only;rw[dF _ _ _ _ au,dF _ _ _ _ au];by_cases e:i=j
   ·rw[bB e,bB e,e];exact⟨rfl,rfl⟩
   ·rw[bL e,bL e];exact q3 j au) (λb _=>by unfold WE OI;simp) (b:=(zf (zY l) ⟨[],0⟩,zf (zY l) O,[])) ⟨by simp,by simp,λj hj=>au,by simp[lT,nK,GJ,Bd]⟩
 obtain⟨S,B,T⟩:=b1;obtain⟨q1,q2,q3,q4⟩:=hb1;dsimp only at q1 q2 q3 q4 e1;have hCt:C.take l.length=C:=by rw[<-hCl,zy]
 obtain⟨b2,e2,hb2⟩:=cS (rnd:=X0) (zY l) (λi (D:af Cell)=>⟨S,B,l,(zY l:Int),(i:Int),f,v,⟨[],[]⟩,⟨T,D⟩⟩) (λi D=>D=(C.take i).map (uy T)) (λi D hi hD=>by
  obtain⟨i1,i2,hw⟩:=w3 hi au;have akY:=((h.box i hi).TM c).2;obtain⟨qS,qB⟩:=q3 i hi;have Rv:=Qj (l:=T) (by rw[q4];exact Ht _) (by rw[q4];have:=ll (zY l);omega) (BU f v l[i]!.dw) (λx hx=>lo (zY l) x (q4▸hx));have hl2:∀x:Cell,zY (D++[x])<=1073741824:=λx=>by rw[hD,zh,zB,zD,ym];omega
  refine⟨D++[uy T C[i]!],?_,by rw[hD,bE au,zO];rfl⟩;rw[hCg i hi];unfold X0 Oa;cases hs:Qv f v l[i]!.dw with
  |true=>
   simp only[cG,i1,i2,hi,cK,cW,akY,q1,q2,qB,qS,Rv,hl2,hw,uy,cellOf,hs]
  |false=>
   simp only[cG,cD,gK,i1,i2,hi,akY,q1,q2,qB,hl2,hw,uy,cellOf,hs,yy]) (λb _=>by unfold X0 Oa;simp) (b:=[]) (by simp)
 rw[hCt]at hb2 q4;have e1':YC ⟨l,zf (zY l) ⟨[],0⟩,zf (zY l) O,l,(zY l:Int),0,f,v,⟨[],[]⟩,⟨[],[]⟩⟩=V ⟨l,S,B,l,(zY l:Int),(zY l:Int),f,v,⟨[],[]⟩,⟨T,[]⟩⟩:=e1;have e2':Wf ⟨S,B,l,(zY l:Int),0,f,v,⟨[],[]⟩,⟨T,[]⟩⟩=V ⟨S,B,l,(zY l:Int),(zY l:Int),f,v,⟨[],[]⟩,⟨T,b2⟩⟩:=e2;have j1:(0:Int)<=(zY l:Int):=au;have j2:(zY l:Int)<=1073741824:=au;unfold m57 OI Oa;simp only[cG,j1,j2,zj,cW,e1',e2',yx,ct,uM,<-q4,hb2]
end
abbrev apj:=Unit×Int
def aoj:Td 0 apj:= .c [] [6,7] (.r 0 0 (ec 6 qv (ec 7 aP en)) sn (λz=>((),z.1.2.1)) (λx=>(((),x.2,()),(()))))
def apb:=(lc (qg 26) (lc (qg 29) (lc (qg 84) ln)))
def afr:An:=(noTwo (noTwo (noTwo (noTwo (noTwo (noTwo (.two (noTwo (nj.lp p9 .no)) .no)))))))
def arq:gu vp (Pd) 0 300 105 (afr):=cH (l:=[(bk f105 0,(nj.lp p9 .no))]) func105 (bT aY) aY (aA ⟨nj.ok _,N2 (Xd)⟩ aH)
def Jv(a0:aS)(a1:bU)(a2:aW):aa apj:=
 match JK a0 a1 with|G=>(match Wl a0 a1 with|G=>G|V r15=>bif bif vn (r15.snd=0)then O else J then V (((),r15.snd))else bif vn (8192<(zY a2.aN:Int))then V (((),4))else match D9 a2.aN with|G=>G|V r16=>bif bif r16 then O else J then V (((),13))else if(0:Int)<=zY a2.aN/\(zY a2.aN:Int)<=(zY a2.aN:Int)/\(zY a2.aN:Int)<=(1073741824:Int)then G else G)|V r5=>bif bif vn (r5.snd=0)then O else J then V (((),r5.snd))else bif vn (8192<(zY a2.aN:Int))then V (((),4))else match D9 a2.aN with|G=>G|V r6=>bif bif r6 then O else J then V (((),13))else if(0:Int)<=zY a2.aN/\(zY a2.aN:Int)<=(zY a2.aN:Int)/\(zY a2.aN:Int)<=(1073741824:Int)then if(0:Int)<=(0:Int)/\(0:Int)<zY r5.fst.aN then if 174=174/\0<zY r5.fst.aN then if(0:Int)<=(0:Int)/\(0:Int)<(↑(zf (zY a2.aN) ([]:af aK)).length:Int)then if 30=30/\0<zY (zf (zY a2.aN) ([]:af aK)) then match p9 (gV.mk ((zf (zY a2.aN) ([]:af aK)).set 0 r5.fst.aN[0]!.dw) a2.aN (zY a2.aN) 0 a2 (Tree.mk a0 a1 []))with|G=>G|V r7=>bif vn (r7.t57<r7.t56)then if 0<=r7.t57/\r7.t57<zY r7.t55 then if 0<=r7.t57/\r7.t57<zY r7.t10 then if 30=30/\zq r7.t57<zY r7.t10 then match UJ r7.b2.fF r7.b2.fV r7.t10[zq r7.t57]! with|G=>G|V r8=>match Z9 r7.b2.fF r7.b2.fV r7.t10[zq r7.t57]! with|G=>G|V r9=>if(fQ r7 r8 r9).length<=1073741824 then bif vn ((↑r7.t55[zq r7.t57]!.aq.length:Int)=0)then G else if 0<=r7.t57/\r7.t57<zY r7.t10 then if 30=30/\zq r7.t57<zY r7.t10 then bif vn (r7.t55[zq r7.t57]!.aZ<0)then V (((),13))else bif vn ((↑(zY r7.t10[zq r7.t57]!):Int)<=r7.t55[zq r7.t57]!.aZ)then V (((),13))else if 0<=r7.t55[zq r7.t57]!.aZ/\r7.t55[zq r7.t57]!.aZ<(↑(zY r7.t10[zq r7.t57]!):Int)then bif vn (r7.t55[zq r7.t57]!.eN<r7.t10[zq r7.t57]![r7.t55[zq r7.t57]!.aZ.toNat]!.ah)then V (((),13))else if 0<=r7.t55[zq r7.t57]!.aZ/\r7.t55[zq r7.t57]!.aZ<(↑(zY r7.t10[zq r7.t57]!):Int)then bif vn (r7.t10[zq r7.t57]![r7.t55[zq r7.t57]!.aZ.toNat]!.ag<=r7.t55[zq r7.t57]!.eN)then V (((),13))else if(0:Int)<=(0:Int)/\(0:Int)<(↑r7.t55[zq r7.t57]!.aq.length:Int)then if(0:Int)<=(1:Int)/\(1:Int)<(↑r7.t55[zq r7.t57]!.aq.length:Int)then match ZO r7.t10[zq r7.t57]! r7.t55[zq r7.t57]!.aZ r7.t55[zq r7.t57]!.eN with|G=>G|V r10=>if 0<=r7.t55[zq r7.t57]!.aq[zq 0]!/\r7.t55[zq r7.t57]!.aq[zq 0]! <(zY r7.t10:Int)then if 30=30/\zq r7.t55[zq r7.t57]!.aq[0]! <zY r7.t10 then if 0<=r7.t55[zq r7.t57]!.aq[zq 1]!/\r7.t55[zq r7.t57]!.aq[zq 1]! <(↑(r7.t10.set (zq r7.t55[zq r7.t57]!.aq[0]!) r10.fst).length:Int)then if 30=30/\zq r7.t55[zq r7.t57]!.aq[1]! <zY (r7.t10.set (zq r7.t55[zq r7.t57]!.aq[0]!) r10.fst) then match m35 r7.t55[zq r7.t57]!.aq with|G=>G|V r11=>if 0<=r7.t57/\r7.t57<(↑(fQ r7 r8 r9).length:Int)then if 174=174/\zq r7.t57<zY (fQ r7 r8 r9) then if 0<=r7.t57/\r7.t57<(↑(iA r7 r8 r9).length:Int)then if 174=174/\zq r7.t57<zY (iA r7 r8 r9) then if 0<=r7.t57/\r7.t57<(↑(iB r7 r8 r9).length:Int)then if 174=174/\zq r7.t57<zY (iB r7 r8 r9) then G else G else G else G else G else G else G else G else G else G else G else G else G else G else G else G else G else G else G else G else G else match RW r7.b2 with|G=>G|V r12=>match amA r7.b0.aN r12.fst.aN with|G=>G|V r13=>bif bif r13 then O else J then V (((),13))else match m71 r7.b0.cv r12.fst.cv with|G=>G|V r14=>bif bif r14 then O else J then V (((),13))else G else G else G else G else G else G
def aAH(a0:aS)(a1:bU)(a2:aW):bZ vp (Pd) 300 (afr) 105 (apb.c (a0,a1,a2,())) [] 0 aoj.rd=Jv a0 a1 a2:=aY
def axi:bu->bu:=eZf vp 105 apb aoj (λg=>Jv g.1 g.2.1 g.t.1)
def aAD:bD vp Pd:=⟨qX (bD.ok (Bm (Bw (EZ (EY (AJ (BP (Au (ED (FT (nY (Di (C0 aV))))))))))))) (bD.nat (P:=vp) (Bm (Bw (EZ (EY (AJ (BP (Au (ED (FT (nY (Di (C0 aV))))))))))))) 300 10,oh (bD.nat (P:=vp) (Bm (Bw (EZ (EY (AJ (BP (Au (ED (FT (nY (Di (C0 aV))))))))))))) 300 10⟩
def afH{F:bu}(h:bD vp F):bD vp (axi F):=afi (fe aAD arq (λ_=>aY) (λ_=>aY) λg=>aAH g.1 g.2.1 g.t.1) ⟨_,func105,aY,aY⟩ (λ_=>aY) h
abbrev E59:=Int
def d59:Td 0 E59:= .c [] [6] (.r 0 0 (ec 6 aP en) sn (λz=>z.1.1) (λx=>((x,()),(()))))
def m59(a0:aS)(a1:bU)(a2:aW):aa E59:=
 match It a0 a1 a2 with|G=>(match Jv a0 a1 a2 with|G=>G|V r2=>V (r2.snd))|V r1=>V (r1.snd)
def e59:=eL vp 59 O (lc (qg 26) (lc (qg 29) (lc (qg 84) ln))) d59 (λg=>m59 g.1 g.2.1 g.t.1)
def awl:EO e59:=λh=>kL (an:= .no) func59 (aem (afH aV)) aH h
def abp:EP e59:=λh=>kP h
def F60:bu:=(ue (aj1 dA))
structure qE where
 t6:List Part
 t7:List Bool
 t8:Int
 t32:List Cell
 (t33 t34:Int)
 t107:List Int
 (t108 t109:Int)
 b2:Cell
def abv:Td 0 qE:= .c [] [6,7,8,9,32,33,34,107,108,109] (.r 0 3 (ec 6 (qo 0) (ec 7 (qo 1) (ec 8 aP (ec 9 (qp 2 0) (ec 32 (ql 117) (ec 33 aP (ec 34 aP (ec 107 (ql 3) (ec 108 aP (ec 109 aP en)))))))))) (sr 0 90 (sr 1 4 (sb 2 117 (lg 117) sn))) (λz=>⟨z.2.1,z.t.1,z.1.t.1,z.1.q.1,z.1.q.2.1,z.1.q.t.1,z.1.q.t.2.1,z.1.q.q.1,z.1.q.q.2.1,z.t.2.1⟩) (λx=>(((),(),x.t8,(),x.t32,x.t33,x.t34,x.t107,x.t108,x.t109,()),(x.t6,x.t7,x.b2,()))))
def DA(x0:qE):=
 x0.t6.set x0.t8.toNat (Part.mk x0.b2.aZ x0.t6[zq x0.t8]!.eN x0.t6[zq x0.t8]!.aq x0.t6[zq x0.t8]!.dw)
def DV(x0:qE):=
 (DA x0).set x0.t8.toNat (Part.mk (DA x0)[zq x0.t8]!.aZ x0.b2.eN (DA x0)[zq x0.t8]!.aq (DA x0)[zq x0.t8]!.dw)
def sO(x0:qE):=
 (DV x0).set x0.t8.toNat (Part.mk (DV x0)[zq x0.t8]!.aZ (DV x0)[zq x0.t8]!.eN x0.b2.aq (DV x0)[zq x0.t8]!.dw)
def DZ(x0:qE)(x1:asy):=
 (sO x0).set (zq x0.b2.aq[0]!) (Part.mk (sO x0)[zq x0.b2.aq[0]!]!.aZ (sO x0)[zq x0.b2.aq[0]!]!.eN (sO x0)[zq x0.b2.aq[0]!]!.aq x1.fst)
def lF(x0:aW):=
 zf (zY x0.aN) (Part.mk 0 0 [] [])
def mZ{α:Type}(p:qE)(go:qE->aa α)(e1 e2:aa α):aa α:=
 bif vn (p.t109<p.t108)then if 0<=p.t109/\p.t109<zY p.t107 then match (bif vn (p.t107[zq p.t109]!<=p.t8)then V J else bif vn (zY p.t6<=p.t107[zq p.t109]!)then V J else if 0<=p.t107[zq p.t109]!/\p.t107[zq p.t109]! <(zY p.t7:Int)then if 4=4/\zq p.t107[zq p.t109]! <zY p.t7 then V (p.t7[zq p.t107[zq p.t109]!]!)else G else G)with|G=>G|V r5=>bif r5 then e1 else if 0<=p.t107[zq p.t109]!/\p.t107[zq p.t109]! <(zY p.t7:Int)then if 4=4/\zq p.t107[zq p.t109]! <zY p.t7 then go (qE.mk p.t6 (p.t7.set (zq p.t107[zq p.t109]!) J) p.t8 p.t32 p.t33 p.t34 p.t107 p.t108 (ak (p.t109+1)) p.b2)else G else G else G else e2
def HO(p:qE):aa (aa qE):=
 mZ p (λs=>V (V s)) (V G) (V G)
def apv:An:=(noTwo (noTwo (.two (noTwo (.two (.two (.rb [] 127) .no) .no)) .no)))
def QA:=bI (HO)
structure DT where
 t6:List Part
 t7:List Bool
 t32:List Cell
 (t33 t34:Int)
def abi:Td 0 DT:= .c [] [6,7,32,33,34] (.r 0 2 (ec 6 (qo 0) (ec 7 (qo 1) (ec 32 (ql 117) (ec 33 aP (ec 34 aP en))))) (sr 0 90 (sr 1 4 sn)) (λz=>⟨z.2.1,z.t.1,z.1.t.1,z.1.t.2.1,z.1.q.1⟩) (λx=>(((),(),x.t32,x.t33,x.t34,()),(x.t6,x.t7,()))))
def A6{α:Type}(p:DT)(go:DT->aa α)(e1 e2:aa α):aa α:=
 bif vn (p.t34<p.t33)then if 0<=p.t34/\p.t34<zY p.t32 then if 0<=p.t34/\p.t34<zY p.t7 then if 4=4/\zq p.t34<zY p.t7 then bif bif p.t7[zq p.t34]! then O else J then e1 else bif vn ((↑p.t32[zq p.t34]!.aq.length:Int)=0)then match (bif bif vn (p.t32[zq p.t34]!.aZ=0)then O else J then V J else V (bif vn (p.t32[zq p.t34]!.eN=0)then O else J))with|G=>G|V r1=>bif r1 then e1 else go (DT.mk p.t6 p.t7 p.t32 p.t33 (ak (p.t34+1)))else bif bif vn ((↑p.t32[zq p.t34]!.aq.length:Int)=2)then O else J then e1 else bif vn (p.t32[zq p.t34]!.aZ<0)then e1 else if 0<=p.t34/\p.t34<zY p.t6 then if 90=90/\zq p.t34<zY p.t6 then bif vn ((↑p.t6[zq p.t34]!.dw.length:Int)<=p.t32[zq p.t34]!.aZ)then e1 else if 0<=p.t34/\p.t34<zY p.t6 then if 90=90/\zq p.t34<zY p.t6 then if 0<=p.t32[zq p.t34]!.aZ/\p.t32[zq p.t34]!.aZ<(↑p.t6[zq p.t34]!.dw.length:Int)then bif vn (p.t32[zq p.t34]!.eN<p.t6[zq p.t34]!.dw[p.t32[zq p.t34]!.aZ.toNat]!.ah)then e1 else if 0<=p.t34/\p.t34<zY p.t6 then if 90=90/\zq p.t34<zY p.t6 then if 0<=p.t32[zq p.t34]!.aZ/\p.t32[zq p.t34]!.aZ<(↑p.t6[zq p.t34]!.dw.length:Int)then bif vn (p.t6[zq p.t34]!.dw[p.t32[zq p.t34]!.aZ.toNat]!.ag<=p.t32[zq p.t34]!.eN)then e1 else match QA (qE.mk p.t6 p.t7 p.t34 p.t32 p.t33 p.t34 p.t32[zq p.t34]!.aq (↑p.t32[zq p.t34]!.aq.length:Int) 0 p.t32[zq p.t34]!)with|G=>G|V r2=>mZ r2 (λ_=>G) e1 (if 0<=r2.t8/\r2.t8<zY r2.t6 then if 90=90/\zq r2.t8<zY r2.t6 then if 0<=r2.t8/\r2.t8<(↑(DA r2).length:Int)then if 90=90/\zq r2.t8<zY (DA r2) then if 0<=r2.t8/\r2.t8<(↑(DV r2).length:Int)then if 90=90/\zq r2.t8<zY (DV r2) then if(0:Int)<=(0:Int)/\(0:Int)<zY r2.b2.aq then if(0:Int)<=(1:Int)/\(1:Int)<zY r2.b2.aq then if 0<=r2.t8/\r2.t8<(↑(sO r2).length:Int)then if 90=90/\zq r2.t8<zY (sO r2) then match aee (sO r2)[zq r2.t8]!.dw r2.b2.aZ r2.b2.eN with|G=>G|V r4=>if 0<=r2.b2.aq[zq 0]!/\r2.b2.aq[zq 0]! <(↑(sO r2).length:Int)then if 90=90/\zq r2.b2.aq[0]! <zY (sO r2) then if 0<=r2.b2.aq[zq 1]!/\r2.b2.aq[zq 1]! <(↑(DZ r2 r4).length:Int)then if 90=90/\zq r2.b2.aq[1]! <zY (DZ r2 r4) then go (DT.mk ((DZ r2 r4).set (zq r2.b2.aq[1]!) (Part.mk (DZ r2 r4)[zq r2.b2.aq[1]!]!.aZ (DZ r2 r4)[zq r2.b2.aq[1]!]!.eN (DZ r2 r4)[zq r2.b2.aq[1]!]!.aq r4.snd)) r2.t7 r2.t32 r2.t33 (ak (r2.t34+1)))else G else G else G else G else G else G else G else G else G else G else G else G else G else G)else G else G else G else G else G else G else G else G else G else G else G else e2
def D4(p:DT):aa (aa DT):=
 A6 p (λs=>V (V s)) (V G) (V G)
def aoo:An:=(noTwo (noTwo (.two (noTwo (noTwo (.two (noTwo (.two (.two (.two (.rb [] 55) .no) .no) .no)) (noTwo (.two (noTwo (abv.lp QA apv)) .no))))) .no)))
def PD:=bI (D4)
abbrev E60:=(af Part)×Bool
def d60:Td 0 E60:= .c [] [4,5] (.t (b6.s 4 [] 90) (.c [] [4,5] (.r 0 1 (ec 4 (qo 0) (ec 5 qb en)) (sr 0 90 sn) (λz=>(z.2.1,z.1.2.1)) (λx=>(((),x.2,()),(x.1,()))))))
def ayh:∀f∈([]:af Nat),bA (F60) f:=aH
def m60(a0:aS)(a1:aW):aa E60:=
 bif vn ((zY a1.aN:Int)=0)then V ([],O)else if(0:Int)<=zY a1.aN/\(zY a1.aN:Int)<=(zY a1.aN:Int)/\(zY a1.aN:Int)<=(1073741824:Int)then if(0:Int)<=zY a1.aN/\(zY a1.aN:Int)<=(zY a1.aN:Int)/\(zY a1.aN:Int)<=(1073741824:Int)then match Tk a0 with|G=>G|V r6=>if(0:Int)<=(0:Int)/\(0:Int)<(↑(lF a1).length:Int)then if 90=90/\0<zY (lF a1) then if(0:Int)<=(0:Int)/\(0:Int)<(↑(zf (zY a1.aN) O).length:Int)then if 4=4/\0<zY (zf (zY a1.aN) O) then match PD (DT.mk ((lF a1).set 0 (Part.mk (lF a1)[0]!.aZ (lF a1)[0]!.eN (lF a1)[0]!.aq r6)) ((zf (zY a1.aN) O).set 0 J) a1.aN (zY a1.aN) 0)with|G=>G|V r7=>A6 r7 (λ_=>G) (V ([],O)) (V (r7.t6,J))else G else G else G else G else G else G
def e60:bu->bu:=eZ vp 60 (lc (qg 26) (lc (qg 84) ln)) d60 (λg=>m60 g.1 g.2.1)
def ash:EO e60:=λh=>kZ (F:=F60) (an:=(noTwo (noTwo (noTwo (noTwo (noTwo (.two (noTwo (abi.lp PD aoo)) .no))))))) (l:=[(bk f60 0,(abi.lp PD aoo)),(.skip,(.rb [] 55)),(bk f60 1,(abv.lp QA apv)),(.skip,(.rb [] 127))]) func60 (amz (amT aV)) (aA (aO abi) (aA ayh (aA (aO abv) (aA ayh aH)))) h
def ade{F:bu}{f:Nat}(hne:zc f 60=O)(h:bA F f):bA (e60 F) f:=AM hne h
def F11:bu:=(e60 (e59 (e57 (e56 (e46 (e45 dA))))))
def avQ:bD vp F11:=(ash (awl (ath (arS (avq (ahR aE4 aV))))))
abbrev E11:=Bool
def d11:Td 0 E11:= .c [] [6] (.r 0 0 (ec 6 qb en) sn (λz=>z.1.1) (λx=>((x,()),(()))))
def A11:=(lc (qg 26) (lc (qg 29) (lc (qg 84) ln)))
def aBQ:An:=(noTwo (noTwo (.two (.two (.rb [46] 27) .no) .no)))
def aEw:∀f∈([46]:af Nat),bA (F11) f:=(aA (ade (f:=46) rfl (abp (acy (f:=46) rfl (adj (adz (adX bG)))))) aH)
def aGx:gu vp (F11) 0 300 11 (aBQ):=cH (l:=[(.skip,(.rb [46] 27))]) func11 (bT aY) aY (aA aEw aH)
def m11(a0:aS)(a1:bU)(a2:aW):aa E11:=
 bif bif m45 then O else J then V O else match match m46 a0 a1 with|G=>G|V r1=>bif bif r1 then O else J then V J else bif vn (40<(zY a2.aN:Int))then V J else V (vn (40<(zY a2.cv:Int)))with|G=>G|V r2=>bif r2 then V J else match m59 a0 a1 a2 with|G=>G|V r3=>match m60 a0 a2 with|G=>G|V r4=>bif bif r4.snd then O else J then V (vn (r3=13))else match m57 a0 a1 r4.fst with|G=>G|V r5=>match m56 a2 r5 with|G=>G|V r6=>bif bif r6 then O else J then V (vn (r3=13))else V (vn (r3=0))
def c11(a0:aS)(a1:bU)(a2:aW):bZ vp (F11) 300 (aBQ) 11 (A11.c (a0,a1,a2,())) [] 0 d11.rd=m11 a0 a1 a2:=aY
def h11:HL vp 11 A11 d11 (λg=>m11 g.1 g.2.1 g.2.2.1):=(fe avQ aGx (λ_=>aY) (λ_=>aY) λg=>c11 g.1 g.2.1 g.2.2.1)
def dD(c:af Cell)(f:aS):Nat->af (af aK)
 |0=>(zf (zY c) []).set 0 (mX f)
 |i+1=>match c[i]!.aq with
  |[a,b]=>((dD c f i).set a.toNat (ZS (dD c f i)[i]! c[i]!.aZ.toNat c[i]!.eN)).set b.toNat (bHi (dD c f i)[i]! c[i]!.aZ.toNat c[i]!.eN)
  |_=>dD c f i
def fJ(c:af Cell):af Int:=c.flatMap (·.aq)
structure BA (c:List Cell):Prop where
 ne:0<zY c
 Je:∀i,i<zY c->(c[i]!.aq=[]/\c[i]!.aZ=0/\c[i]!.eN=0)\/∃a b:Nat,c[i]!.aq=[(a:Int),(b:Int)]/\i<a/\a<zY c/\i<b/\b<zY c
 cnt:∀k:Nat,k<zY c->(fJ c).count (k:Int)=if k=0 then 0 else 1
def Ed(c:af Cell)(f:aS)(i:Nat):Prop:=c[i]!.aq≠[]->0<=c[i]!.aZ/\c[i]!.aZ<((dD c f i)[i]!.length:Int)/\(dD c f i)[i]![c[i]!.aZ.toNat]!.ah<=c[i]!.eN/\c[i]!.eN<(dD c f i)[i]![c[i]!.aZ.toNat]!.ag
def jL(c:af Cell)(f:aS):∀i,zY (dD c f i)=zY c
 |0=>by simp[dD]
 |i+1=>by
  unfold dD;split
  ·rw[zI,zI,jL c f i]
  ·exact jL c f i
def iw{c:af Cell}{i:Nat}(h:i<zY c):fJ (c.take (i+1))=fJ (c.take i)++c[i]!.aq:=by
 unfold fJ;rw[bE h,xR];simp
def uH(c:af Cell)(x:Int){i:Nat}:∀j,i<=j->j<=zY c->(fJ (c.take i)).count x<=(fJ (c.take j)).count x
 |0,h,_=>by rw[show i=0 by omega];exact zl _
 |j+1,h,hj=>by
  by_cases e:i=j+1
  ·rw[e];exact zl _
  ·have:=uH c x (i:=i) j au au;rw[iw au,xZ];omega
def je{c:af Cell}{x:Int}:∀{i:Nat},i<=zY c->(x∈fJ (c.take i)↔∃p,p<i/\x∈c[p]!.aq)
 |0,_=>by simp[fJ]
 |i+1,hi=>by
  rw[iw au,zP,je au];constructor
  ·rintro(⟨p,h1,h2⟩|h)
   ·exact⟨p,au,h2⟩
   ·exact⟨i,au,h⟩
  ·rintro⟨p,h1,h2⟩;by_cases e:p=i
   ·exact .inr (e▸h2)
   ·exact .inl ⟨p,au,h2⟩
def Ke{c:af Cell}{x:Int}(h1:(fJ c).count x<=1){p q:Nat}(hpq:p<q)(hq:q<zY c)(hx:x∈c[p]!.aq)(hy:x∈c[q]!.aq):False:=by
 have e1:=iw (c:=c) (i:=q) hq;have e2:=uH c x (i:=q+1) (zY c) au (zl _);rw[zy,e1,xZ]at e2;have g1:=List.count_pos_iff.2 hy;have g2:=List.count_pos_iff.2 ((je (c:=c) (x:=x) (i:=q) au).2 ⟨p,hpq,hx⟩);omega
section
variable {c:af Cell}
def BA.le1(h:BA c)(x:Nat)(hx:x<zY c):(fJ c).count (x:Int)<=1:=by
 rw[h.cnt x hx];split<;>omega
def BA.lt(h:BA c){p:Nat}(hp:p<zY c){x:Int}(hx:x∈c[p]!.aq):∃a:Nat,x=(a:Int)/\p<a/\a<zY c:=by
 rcases h.Je p hp with ⟨e,_⟩|⟨a,b,e,h1,h2,h3,h4⟩
 ·rw[e]at hx;cases hx
 ·rw[e]at hx;rcases zx.1 hx with rfl|hx
  ·exact⟨a,rfl,h1,h2⟩
  ·rw[zo.1 hx];exact⟨b,rfl,h3,h4⟩
def BA.ab(h:BA c){p:Nat}(hp:p<zY c){a b:Nat}(e:c[p]!.aq=[(a:Int),(b:Int)]):a≠b:=λhab=>by
 subst hab;obtain⟨a',e',_,ha⟩:=h.lt hp (x:=(a:Int)) (by rw[e];simp);have:=h.le1 a au;have e2:=uH c (a:Int) (i:=p+1) (zY c) au (zl _);rw[zy,iw hp,xZ,e]at e2;simp at e2;omega
def BA.up(h:BA c){x:Nat}(hx:x<zY c)(h0:x≠0):∃p,p<x/\(x:Int)∈c[p]!.aq:=by
 have hm:(x:Int)∈fJ (c.take (zY c)):=by
  rw[zy];refine List.count_pos_iff.1 ?_;rw[h.cnt x hx,bL h0];exact Nat.zero_lt_one
 obtain⟨p,h1,h2⟩:=(je (zl _)).1 hm;obtain⟨a,e,h3,_⟩:=h.lt h1 h2;exact⟨p,au,h2⟩
def BA.keep(h:BA c)(f:aS){i x:Nat}(hi:i<zY c)(hx:x<zY c)(hn:(x:Int)∉c[i]!.aq):(dD c f (i+1))[x]! =(dD c f i)[x]! :=by
 rcases h.Je i hi with ⟨e,_⟩|⟨a,b,e,h1,h2,h3,h4⟩
 ·conv=>lhs;unfold dD
  rw[e]
 ·rw[e]at hn;simp at hn
  conv=>lhs;unfold dD
  rw[e];dsimp only;rw[dF _ _ _ _ (by rw[zI,jL];exact hx),dF _ _ _ _ (by rw[jL];exact hx),bL (by simp;omega),bL (by simp;omega)]
def BA.aAR(h:BA c)(f:aS){i:Nat}(hi:i<zY c):∀j,i<=j->j<=zY c->(dD c f j)[i]! =(dD c f i)[i]!
 |0,h1,_=>by rw[show i=0 by omega]
 |j+1,h1,hj=>by
  by_cases e:i=j+1
  ·rw[e]
  ·rw[h.keep f au hi λhx=>by
    obtain⟨a,e,h3,_⟩:=h.lt au hx;omega]
   exact h.aAR f hi j au au
def BA.ah5(h:BA c)(f:aS){p x:Nat}(hp:p<zY c)(hx:x<zY c)(hk:(x:Int)∈c[p]!.aq):∀j,p<j->j<=zY c->(dD c f j)[x]! =(dD c f (p+1))[x]!
 |0,h1,_=>au
 |j+1,h1,hj=>by
  by_cases e:p=j
  ·rw[e]
  ·rw[h.keep f au hx λhy=>Ke (h.le1 x hx) (show p<j by omega) au hk hy];exact h.ah5 f hp hx hk j au au
def BA.axE(h:BA c)(f:aS){p a b:Nat}(hp:p<zY c)(e:c[p]!.aq=[(a:Int),(b:Int)])(ha:a<zY c)(hb:b<zY c):(dD c f (p+1))[a]! =ZS (dD c f p)[p]! c[p]!.aZ.toNat c[p]!.eN/\(dD c f (p+1))[b]! =bHi (dD c f p)[p]! c[p]!.aZ.toNat c[p]!.eN:=by
 have hab:=h.ab hp e;have hs:dD c f (p+1)=((dD c f p).set a (ZS (dD c f p)[p]! c[p]!.aZ.toNat c[p]!.eN)).set b (bHi (dD c f p)[p]! c[p]!.aZ.toNat c[p]!.eN):=by
  conv=>lhs;unfold dD
  rw[e];rfl
 rw[hs,dF _ _ _ _ (by rw[zI,jL];exact ha),dF _ _ _ _ (by rw[jL];exact ha),dF _ _ _ _ (by rw[zI,jL];exact hb),bL (λh=>hab h.symm),bB rfl,bB rfl];exact⟨rfl,rfl⟩
def BA.ok{f:aS}{v:bU}(h:BA c)(q:Cx f v):∀(n i:Nat),i<n->i<zY c->(∀j,j<i->Ed c f j)->mW f (dD c f i)[i]!
 |n+1,i,hn,hi,hr=>by
  by_cases h0:i=0
  ·subst h0;unfold dD;rw[dF _ _ _ _ (by simpa using hi),bB rfl];exact L8 q
  ·obtain⟨p,hp,hk⟩:=h.up hi h0;have hb:=h.ok q n p au au λj hj=>hr j au;rcases h.Je p au with ⟨e,_⟩|⟨a,b,e,h1,h2,h3,h4⟩
   ·rw[e]at hk;cases hk
   ·obtain⟨r1,r2,r3,r4⟩:=hr p hp (by rw[e];simp);rw[h.ah5 f au hi hk i hp au];obtain⟨k1,k2⟩:=h.axE f au e h2 h4;have hj:c[p]!.aZ.toNat<(dD c f p)[p]!.length:=au;rw[e]at hk;rcases zx.1 hk with hk|hk
    ·rw[show i=a by omega,k1];exact aqA hb hj r3 r4
    ·have:=zo.1 hk;rw[show i=b by omega,k2];exact aqy hb hj r3 r4
def ja(c:af Cell)(f:aS)(i:Nat):af Part:=(zH i).map λj=>⟨c[j]!.aZ,c[j]!.eN,c[j]!.aq,(dD c f j)[j]!⟩
def ig(f:aS)(i:Nat):zY (ja c f i)=i:=by unfold ja;simp
def P4(f:aS){i j:Nat}(h:j<i):(ja c f i)[j]! =⟨c[j]!.aZ,c[j]!.eN,c[j]!.aq,(dD c f j)[j]!⟩:=by
 unfold ja;rw[gX _ _ _ (by simpa using h),getElem!_pos _ j (by simpa using h),wo]
def Kn(f:aS)(i:Nat):ja c f (i+1)=ja c f i++[⟨c[i]!.aZ,c[i]!.eN,c[i]!.aq,(dD c f i)[i]!⟩]:=by
 unfold ja;rw[wG,zO];rfl
def BA.wf{f:aS}{v:bU}(h:BA c)(q:Cx f v)(hr:∀i,i<zY c->Ed c f i):WF f (ja c f (zY c))/\aoQ (ja c f (zY c)) c:=by
 have hl:=ig (c:=c) f (zY c);have hg:∀i,i<zY c->(ja c f (zY c))[i]! =⟨c[i]!.aZ,c[i]!.eN,c[i]!.aq,(dD c f i)[i]!⟩:=λi hi=>P4 f hi;refine⟨⟨by rw[hl];exact h.ne,?_,λi hi=> ?_,λi hi=> ?_,λk hk=> ?_⟩,⟨hl.symm,λi hi=> ?_⟩⟩
 ·rw[hg 0 h.ne];show (dD c f 0)[0]! =_;unfold dD;rw[dF _ _ _ _ (by simpa using h.ne),bB rfl]
 ·rw[hl]at hi;rw[hg i hi];exact h.ok q (i+1) i au hi λj hj=>hr j au
 ·rw[hl]at hi ⊢;rw[hg i hi];rcases h.Je i hi with e|⟨a,b,e,h1,h2,h3,h4⟩
  ·exact .inl e
  ·obtain⟨r1,r2,r3,r4⟩:=hr i hi (by rw[e];simp);obtain⟨k1,k2⟩:=h.axE f hi e h2 h4;refine .inr ⟨a,b,c[i]!.aZ.toNat,e,h1,h2,h3,h4,h.ab hi e,by show c[i]!.aZ=_;omega,by show c[i]!.aZ.toNat<(dD c f i)[i]!.length;omega,r3,r4,?_,?_⟩
   ·rw[hg a h2,<-k1];show (dD c f a)[a]! =_;exact h.ah5 f hi h2 (by rw[e];simp) a h1 au
   ·rw[hg b h4,<-k2];show (dD c f b)[b]! =_;exact h.ah5 f hi h4 (by rw[e];simp) b h3 au
 ·rw[hl]at hk;rw[<-h.cnt k hk]
  congr 1
  unfold nU fJ ja;rw[List.flatMap_map];show (zH (zY c)).flatMap (λj=>c[j]!.aq)=_;have:c=(zH (zY c)).map λj=>c[j]! :=by
   apply xw (by simp);intro i h1 h2;simp[getElem!_pos,h1]
  conv=>rhs;rw[this,List.flatMap_map]
 ·rw[hl]at hi;rw[hg i hi];exact⟨rfl,rfl,rfl⟩
end
section
variable {f:aS} {v:bU} {c:af Cell}
def Ed.no{i:Nat}(h:¬Ed c f i):c[i]!.aq≠[]/\(c[i]!.aZ<0\/(¬c[i]!.aZ<0/\((dD c f i)[i]!.length:Int)<=c[i]!.aZ)\/(¬c[i]!.aZ<0/\¬((dD c f i)[i]!.length:Int)<=c[i]!.aZ/\c[i]!.eN<(dD c f i)[i]![c[i]!.aZ.toNat]!.ah)\/(¬c[i]!.aZ<0/\¬((dD c f i)[i]!.length:Int)<=c[i]!.aZ/\¬c[i]!.eN<(dD c f i)[i]![c[i]!.aZ.toNat]!.ah/\(dD c f i)[i]![c[i]!.aZ.toNat]!.ag<=c[i]!.eN)):=by
 unfold Ed at h;rw[Classical.not_imp]at h;exact⟨h.1,au⟩
def YT(q:Cx f v)(h:BA c)(hl:zY c<=8192){i:Nat}(hi:i<zY c)(hr:∀j,j<i->Ed c f j)(s:aW):
  UJ f v (dD c f i)[i]! =V (bdX f v (dD c f i)[i]!,0)/\Z9 f v (dD c f i)[i]! =V (BU f v (dD c f i)[i]!,Qv f v (dD c f i)[i]!,0)/\
   fQ ⟨dD c f i,c,(zY c:Int),(i:Int),s,⟨f,v,(ja c f i).map (cellOf f v)⟩⟩ (bdX f v (dD c f i)[i]!,0) (BU f v (dD c f i)[i]!,Qv f v (dD c f i)[i]!,0)=(ja c f i++[(⟨0,0,[],(dD c f i)[i]!⟩:Part)]).map (cellOf f v):=by
 have hb:=h.ok q (i+1) i au hi hr;refine⟨hb.UJ q,hb.Z9 q,?_⟩;unfold fQ;simp only[zg,zO,yf,yT];rfl
def WC(q:Cx f v)(h:BA c)(hl:zY c<=8192)(s:aW):∃i,i<=zY c/\p9 ⟨(zf (zY c) []).set 0 (mX f),c,(zY c:Int),0,s,⟨f,v,[]⟩⟩=V ⟨dD c f i,c,(zY c:Int),(i:Int),s,⟨f,v,(ja c f i).map (cellOf f v)⟩⟩/\(∀j,j<i->Ed c f j)/\(i=zY c\/i<zY c/\¬Ed c f i):=by
 obtain⟨i,-,e,hI,hS⟩:=jq (rnd:=qa) (zY c) (λi (_:Unit)=>⟨dD c f i,c,(zY c:Int),(i:Int),s,⟨f,v,(ja c f i).map (cellOf f v)⟩⟩) (λi _=>∀j,j<i->Ed c f j) (λi _=>¬Ed c f i) (λi _ hi hr=>by
  obtain⟨i1,i2,hw⟩:=w3 hi au;have hBl:=jL c f i;obtain⟨YA,YU,g2⟩:=YT q h hl hi hr s;have hb:=h.ok q (i+1) i au hi hr;have gl:zY ((ja c f i++[(⟨0,0,[],(dD c f i)[i]!⟩:Part)]).map (cellOf f v))<=1073741824:=by simp[ig];omega
  have hidl:=EH q;by_cases hg:Ed c f i
  ·refine .inl ⟨(),?_,λj hj=> ?_⟩
   ·rcases h.Je i hi with ⟨q1,q2,q3⟩|⟨a,b,q1,q2,q3,q4,q5⟩
    ·have et:(ja c f (i+1)).map (cellOf f v)=(ja c f i++[(⟨0,0,[],(dD c f i)[i]!⟩:Part)]).map (cellOf f v):=by
      rw[Kn,q1,q2,q3]
     have eb:dD c f (i+1)=dD c f i:=by
      conv=>lhs;unfold dD
      rw[q1]
     rw[et,eb];unfold qa lJ;simp only[cG,i1,i2,hBl,cK,cW,YA,YU,g2,gl,q1,yA,hw,hi];rfl
    ·obtain⟨r1,r2,r3,r4⟩:=hg (by rw[q1];simp);obtain⟨j,hj⟩:∃j:Nat,c[i]!.aZ=(j:Int):=⟨c[i]!.aZ.toNat,au⟩;rw[hj]at r1 r2 r3 r4;rw[zg]at r3 r4;have hjl:j<(dD c f i)[i]!.length:=au;have hd:=hb.bd q.hc hjl;have agH:=anL (b:=(dD c f i)[i]!) (by rw[hb.len];omega) hjl (a:=c[i]!.eN) au au;have eb:dD c f (i+1)=((dD c f i).set a (ZS (dD c f i)[i]! j c[i]!.eN)).set b (bHi (dD c f i)[i]! j c[i]!.eN):=by
      conv=>lhs;unfold dD
      rw[q1,hj];rfl
     have gx:∀p:Part,((ja c f i++[p]).map (cellOf f v))[i]! =cellOf f v p:=λp=>by
      rw[gX _ _ _ (by simp[ig])];have:=adG (ja c f i) [p] 0 (by simp);rw[ig]at this;exact congrArg (cellOf f v) this
     have gs:∀p r:Part,((ja c f i++[p]).map (cellOf f v)).set i (cellOf f v r)=(ja c f i++[r]).map (cellOf f v):=λp r=>by
      rw[<-List.map_set]
      congr 1
      rw[List.set_append_right _ _ (by rw[ig];omega),ig,xT];rfl
     have g0:iA ⟨dD c f i,c,(zY c:Int),(i:Int),s,⟨f,v,(ja c f i).map (cellOf f v)⟩⟩ (bdX f v (dD c f i)[i]!,0) (BU f v (dD c f i)[i]!,Qv f v (dD c f i)[i]!,0)=(ja c f i++[(⟨(j:Int),0,[],(dD c f i)[i]!⟩:Part)]).map (cellOf f v):=by
      unfold iA;rw[g2];simp only[zg,gx,hj];exact gs _ ⟨(j:Int),0,[],(dD c f i)[i]!⟩
     have g1:iB ⟨dD c f i,c,(zY c:Int),(i:Int),s,⟨f,v,(ja c f i).map (cellOf f v)⟩⟩ (bdX f v (dD c f i)[i]!,0) (BU f v (dD c f i)[i]!,Qv f v (dD c f i)[i]!,0)=(ja c f i++[(⟨(j:Int),c[i]!.eN,[],(dD c f i)[i]!⟩:Part)]).map (cellOf f v):=by
      unfold iB;rw[g0];simp only[zg,gx];exact gs _ ⟨(j:Int),c[i]!.eN,[],(dD c f i)[i]!⟩
     have gl3:∀p:Part,zY ((ja c f i++[p]).map (cellOf f v))=i+1:=λp=>by simp[ig]
     have e35:=afz (l:=[(a:Int),(b:Int)]) (by simp);have gl4:i+1<=1073741824:=au;have gf:=gs ⟨(j:Int),c[i]!.eN,[],(dD c f i)[i]!⟩ ⟨(j:Int),c[i]!.eN,[(a:Int),(b:Int)],(dD c f i)[i]!⟩;rw[Kn,q1,hj,eb];have c1:¬(j:Int)<0:=au;have c2:¬((dD c f i)[i]!.length:Int)<=(j:Int):=au;have c3:(0:Int)<=(j:Int):=au;have c5:¬c[i]!.eN<(dD c f i)[i]![j]!.ah:=au;have c6:¬(dD c f i)[i]![j]!.ag<=c[i]!.eN:=au;have c7:(0:Int)<=(a:Int):=au;have c8:(a:Int)<(zY c:Int):=au;have c9:(0:Int)<=(b:Int):=au;have c10:(b:Int)<(zY c:Int):=au;have c11:(i:Int)<((i+1:Nat):Int):=au;have k0:([(a:Int),(b:Int)])[0]! =(a:Int):=rfl;have k1:([(a:Int),(b:Int)])[1]! =(b:Int):=rfl;have t0:zq 0=0:=rfl;have t1:zq 1=1:=rfl;unfold qa lJ;simp only[cG,cD,i1,i2,hBl,cW,YA,YU,g2,gl,q1,hj,yw,yA,hw,c1,c2,c3,r2,c5,c6,agH,t0,t1,k0,k1,c7,c8,c9,c10,q3,q5,zI,e35,gl3,c11,g0,g1,gx,zC,gl4,hi];simp only[cellOf]at gf ⊢;rw[gf];rfl
   ·by_cases e:j=i
    ·rw[e];exact hg
    ·exact hr j au
  ·refine .inr ⟨?_,hg⟩;obtain⟨n0,hn⟩:=Ed.no hg;have n1:¬(zY c[i]!.aq:Int)=0:=by
    have:=wH.2 n0;omega
   unfold qa lJ;rcases hn with d1|⟨d1,d2⟩|⟨d1,d2,d3⟩|⟨d1,d2,d3,d4⟩
   ·simp only[cG,cD,i1,i2,hBl,cW,YA,YU,g2,gl,n1,hi,d1]
   ·simp only[cG,cD,i1,i2,hBl,cW,YA,YU,g2,gl,n1,hi,d1,d2]
   ·have z1:(0:Int)<=c[i]!.aZ:=au;have z2:c[i]!.aZ<((dD c f i)[i]!.length:Int):=au;simp only[cG,cD,i1,i2,hBl,cW,YA,YU,g2,gl,n1,hi,d1,d2,d3,z1,z2]
   ·have z1:(0:Int)<=c[i]!.aZ:=au;have z2:c[i]!.aZ<((dD c f i)[i]!.length:Int):=au;simp only[cG,cD,i1,i2,hBl,cW,YA,YU,g2,gl,n1,hi,d1,d2,d3,d4,z1,z2]) (λ_ _=>by unfold qa lJ;simp) (b:=()) λj hj=>au
 exact⟨i,by rcases hS with h|⟨h,_⟩<;>omega,e,hI,hS⟩
end
def FL(c:af Cell)(i:Int)(t16:af Cell)(t17 t18:Int)(ks:af Int)(P:af Int)(hl:zY ks<=1000)(hk:¬∀x∈ks,∃a:Nat,x=(a:Int)/\i<(a:Int)/\a<zY c)(h0:0<=i)(hP:zY P=zY c):
  ∃Q j,j<zY ks/\FK ⟨c,P,i,t16,t17,t18,ks,(zY ks:Int),0⟩=V ⟨c,Q,i,t16,t17,t18,ks,(zY ks:Int),(j:Int)⟩/\zY Q=zY c/\(ks[j]!<=i\/(zY c:Int)<=ks[j]!):=by
 obtain⟨j,Q,e,⟨hQ,hI⟩,hS⟩:=jq (rnd:=oZ) (zY ks) (λj (Q:af Int)=>⟨c,Q,i,t16,t17,t18,ks,(zY ks:Int),(j:Int)⟩) (λj Q=>zY Q=zY c/\∀x∈ks.take j,∃a:Nat,x=(a:Int)/\i<(a:Int)/\a<zY c) (λj _=>ks[j]!<=i\/(zY c:Int)<=ks[j]!) (λj Q hj ⟨hQ,hI⟩=>by
  have hw:=jR hj au;have i1:(j:Int)<(zY ks:Int):=au;have i2:(0:Int)<=(j:Int):=au;by_cases g1:ks[j]!<=i
  ·refine .inr ⟨?_, .inl g1⟩;unfold oZ gQ;simp only[cG,i1,i2,cK,cW,g1]
  ·by_cases g2:(zY c:Int)<=ks[j]!
   ·refine .inr ⟨?_, .inr g2⟩;unfold oZ gQ;simp only[cG,cD,i1,i2,cW,g1,g2]
   ·obtain⟨a,ha⟩:∃a:Nat,ks[j]! =(a:Int):=⟨ks[j]!.toNat,au⟩;have a5:(a:Int)<(zY Q:Int):=au;have a6:(0:Int)<=(a:Int):=au;have a7:a<zY Q:=au;have g1':¬(a:Int)<=i:=au;have g2':¬(zY c:Int)<=(a:Int):=au;refine .inl ⟨Q.set a (ak (Q[a]! +1)),?_,by rw[zI];exact hQ,λx hx=> ?_⟩
    ·unfold oZ gQ;simp only[cG,cD,i1,i2,cW,ha,g1',g2',a5,a6,a7,hw]
    ·rw[bE hj]at hx;rcases zP.1 hx with hx|hx
     ·exact hI x hx
     ·rw[zo.1 hx];exact⟨a,ha,au,au⟩) (λQ _=>by unfold oZ gQ;simp) (b:=P) ⟨hP,λx hx=>by simp at hx⟩
 rcases hS with hn|⟨hj,hS⟩
 ·rw[hn,zy]at hI;exact dS hI hk
 ·exact⟨Q,j,hj,e,hQ,hS⟩
def OkK(c:af Cell)(i:Nat):Prop:=(c[i]!.aq=[]/\c[i]!.aZ=0/\c[i]!.eN=0)\/∃a b:Nat,c[i]!.aq=[(a:Int),(b:Int)]/\i<a/\a<zY c/\i<b/\b<zY c
def OkK.no{c:af Cell}{i:Nat}(h:¬OkK c i):(¬(zY c[i]!.aq:Int)=0/\¬(zY c[i]!.aq:Int)=2)\/((zY c[i]!.aq:Int)=0/\¬c[i]!.aZ=0)\/((zY c[i]!.aq:Int)=0/\c[i]!.aZ=0/\¬c[i]!.eN=0)\/((zY c[i]!.aq:Int)=2/\¬∀x∈c[i]!.aq,∃a:Nat,x=(a:Int)/\(i:Int)<(a:Int)/\a<zY c):=by
 by_cases h0:zY c[i]!.aq=0
 ·have e:=xu.1 h0;by_cases h1:c[i]!.aZ=0
  ·exact .inr (.inr (.inl ⟨au,h1,λh2=>h (.inl ⟨e,h1,h2⟩)⟩))
  ·exact .inr (.inl ⟨au,h1⟩)
 ·by_cases h2:zY c[i]!.aq=2
  ·refine .inr (.inr (.inr ⟨au,λha=>h (.inr ?_)⟩))
   match e:c[i]!.aq,h2 with
   |[x,y],_=>
    obtain⟨a,rfl,a1,a2⟩:=ha x (by rw[e];simp);obtain⟨b,rfl,b1,b2⟩:=ha y (by rw[e];simp);exact⟨a,b,rfl,au,a2,au,b2⟩
  ·exact .inl ⟨au,au⟩
def OkK.all{c:af Cell}{i:Nat}(h:OkK c i):∀x∈c[i]!.aq,∃a:Nat,x=(a:Int)/\(i:Int)<(a:Int)/\a<zY c:=λx hx=>by
 rcases h with ⟨e,_⟩|⟨a,b,e,h1,h2,h3,h4⟩
 ·rw[e]at hx;cases hx
 ·rw[e]at hx;rcases zx.1 hx with rfl|hx
  ·exact⟨a,rfl,au,h2⟩
  ·rw[zo.1 hx];exact⟨b,rfl,au,h4⟩
def abu{c:af Cell}(hl:zY c<=8192):∃r,D9 c=V r/\(r=J->BA c):=by
 by_cases h0:zY c=0
 ·refine⟨false,?_,λh=>by cases h⟩;unfold D9 lz mM gQ;simp only[h0,Int.natCast_zero,DB,cK]
 have n0:¬(zY c:Int)=0:=au;have n1:(0:Int)<=(zY c:Int)/\(zY c:Int)<=(zY c:Int)/\(zY c:Int)<=1073741824:=au;have cnt_le:∀i,i<=zY c->(∀j,j<i->OkK c j)->zY (fJ (c.take i))<=2*i:=λi=>by
  induction i with
  |zero=>intro _ _;simp[fJ]
  |succ i ih=>
   intro hi hk;have:=ih au λj hj=>hk j au;rw[iw au,zh];rcases hk i au with ⟨e,_⟩|⟨a,b,e,_⟩<;>rw[e]<;>simp<;>omega
 obtain⟨i,P,e,⟨hP,hPk,hK⟩,hS⟩:=jq (rnd:=ry) (zY c) (λi (P:af Int)=>⟨c,P,c,(zY c:Int),(i:Int)⟩) (λi P=>zY P=zY c/\(∀k,k<zY c->P[k]! =(((fJ (c.take i)).count (k:Int):Nat):Int))/\∀j,j<i->OkK c j) (λi P=>¬OkK c i) (λi P hi ⟨hP,hPk,hK⟩=>by
  obtain⟨i1,i2,hw⟩:=w3 hi au;by_cases ho:OkK c i
  ·have hkl:zY c[i]!.aq<=2:=by rcases ho with ⟨e,_⟩|⟨a,b,e,_⟩<;>rw[e]<;>simp
   obtain⟨Q,e1,e2,e3⟩:=Ko c (i:Int) 0 c (zY c:Int) (i:Int) c[i]!.aq P au ho.all hP (λk hk=>by
    rw[hPk k au];have:=cnt_le i au hK;have:=List.count_le_length (a:=(k:Int)) (l:=fJ (c.take i));omega)
   refine .inl ⟨Q,?_,au,λk hk=> ?_,λj hj=> ?_⟩
   ·unfold ry lz gQ;rcases ho with ⟨z,z1,z2⟩|⟨a,b,z,_⟩
    ·rw[z]at e1;simp only[yA]at e1;simp only[cG,cD,i1,i2,cW,z,z1,z2,yA,e1,hw];simp
    ·rw[z]at e1;simp only[yw,yA]at e1;simp only[cG,i1,i2,cK,cW,z,yw,yA,e1,hw];simp
   ·rw[e3 k au,hPk k hk,iw hi,xZ];simp
   ·by_cases e:j=i
    ·rw[e];exact ho
    ·exact hK j au
  ·refine .inr ⟨?_,ho⟩;unfold ry lz gQ;rcases OkK.no ho with ⟨d1,d2⟩|⟨d1,d2⟩|⟨d1,d2,d3⟩|⟨d1,d2⟩
   ·simp only[cG,cD,i1,i2,cW,d1,d2]
   ·simp only[cG,cD,i1,i2,cW,d1,d2]
   ·simp only[cG,cD,i1,i2,cW,d1,d2,d3]
   ·obtain⟨Q,j,hj,e1,hQ,hb⟩:=FL c (i:Int) c (zY c:Int) (i:Int) c[i]!.aq P au d2 i2 hP;have j1:(j:Int)<2:=au;have j2:(0:Int)<=(j:Int):=au;have d0:¬(2:Int)=0:=by decide
    rw[d1]at e1;by_cases b1:c[i]!.aq[j]!<=(i:Int)
    ·simp only[cG,cD,i1,i2,cW,d1,d0,e1,j1,j2,b1]
    ·have b2:=hb.resolve_left b1;simp only[cG,cD,i1,i2,cW,d1,d0,e1,j1,j2,b1,b2]) (λP _=>by unfold ry lz gQ;simp) (b:=zf (zY c) 0) ⟨by simp,λk hk=>by
    rw[getElem!_pos _ k (by simpa using hk)];simp[fJ],λj hj=>au⟩
 have e':FV ⟨c,zf (zY c) 0,c,(zY c:Int),0⟩=V ⟨c,P,c,(zY c:Int),(i:Int)⟩:=e;rcases hS with rfl|⟨hi,ho⟩
 ·rw[zy]at hPk;have hPn:=hP;obtain⟨k,-,e2,hI2,hS2⟩:=jq (rnd:=qV) (zY P) (λi (_:Unit)=>⟨P,(zY P:Int),(i:Int)⟩) (λi _=>∀k,k<i->P[k]! =if k=0 then 0 else 1) (λi _=>¬P[i]! =if i=0 then 0 else 1) (λi _ hi hI=>by
   obtain⟨i1,i2,hw⟩:=w3 hi au;have hp0:0<=P[i]! :=by rw[hPk i au];omega
   have hn:qV ⟨P,(zY P:Int),(i:Int)⟩=if P[i]! =(if i=0 then 0 else 1)then V (V (sk.mk P (zY P:Int) (((i+1:Nat):Int))))else V G:=by
    unfold qV mM;simp only[cG,i1,i2,hi,cK,cW,hw];by_cases z:i=0
    ·subst z;by_cases g1:P[0]! =1
     ·have g3:¬P[0]! =0:=au;rw[bB rfl,bL g3];simp only[g1,DB];rfl
     ·by_cases g2:(1:Int)<P[0]!
      ·have g3:¬P[0]! =0:=au;rw[bB rfl,bL g3];simp only[cG,g1,g2];rfl
      ·have g3:P[0]! =0:=au;rw[bB rfl,bB g3];simp only[g1,g2,Ej];rfl
    ·have z':¬(i:Int)=0:=au;rw[bL z];by_cases g1:P[i]! =1
     ·have g2:¬(1:Int)<P[i]! :=au;rw[bB g1];simp only[cG,g1,z'];rfl
     ·rw[bL g1];simp only[g1,z',Ej];rfl
   by_cases g:P[i]! =if i=0 then 0 else 1
   ·refine .inl ⟨(),by rw[hn,bB g],λk hk=> ?_⟩;by_cases e:k=i
    ·rw[e];exact g
    ·exact hI k au
   ·exact .inr ⟨by rw[hn,bL g],g⟩) (λ_ _=>by unfold qV mM;simp) (b:=()) λk hk=>au
  have e2':Gu ⟨P,(zY P:Int),0⟩=V ⟨P,(zY P:Int),(k:Int)⟩:=e2;rcases hS2 with rfl|⟨hk,hS2⟩
  ·refine⟨J,?_,λ_=>⟨au,hK,λk hk=> ?_⟩⟩
   ·unfold D9 lz mM gQ;simp only[cG,n0,ct,bB n1,e',yx,e2']
   ·have:=hI2 k au;rw[hPk k hk]at this;by_cases e:k=0
    ·rw[bB e]at this ⊢;omega
    ·rw[bL e]at this ⊢;omega
  ·refine⟨false,?_,λh=>by cases h⟩;have i1:(k:Int)<(zY P:Int):=au;have i2:(0:Int)<=(k:Int):=au;have hp0:0<=P[k]! :=by rw[hPk k au];omega
   unfold D9 lz mM gQ;simp only[cG,cD,n0,bB n1,e',yx,e2',i1,i2,hk,cW];by_cases z:k=0
   ·subst z;rw[bB rfl]at hS2;by_cases g1:P[0]! =1
    ·simp only[g1,DB];rfl
    ·have g2:(1:Int)<P[0]! :=au;simp only[cG,g1,g2];rfl
   ·have z':¬(k:Int)=0:=au;rw[bL z]at hS2;simp only[hS2,z',Ej];rfl
 ·refine⟨false,?_,λh=>by cases h⟩;have i1:(i:Int)<(zY c:Int):=au;have i2:(0:Int)<=(i:Int):=au;unfold D9 lz mM gQ;rcases OkK.no ho with ⟨d1,d2⟩|⟨d1,d2⟩|⟨d1,d2,d3⟩|⟨d1,d2⟩
  ·simp only[cG,cD,n0,bB n1,e',i1,i2,cW,d1,d2]
  ·simp only[cG,cD,n0,bB n1,e',i1,i2,cW,d1,d2]
  ·simp only[cG,cD,n0,bB n1,e',i1,i2,cW,d1,d2,d3]
  ·obtain⟨Q,j,hj,e1,hQ,hb⟩:=FL c (i:Int) c (zY c:Int) (i:Int) c[i]!.aq P au d2 i2 hP;have j1:(j:Int)<2:=au;have j2:(0:Int)<=(j:Int):=au;have d0:¬(2:Int)=0:=by decide
   rw[d1]at e1;by_cases b1:c[i]!.aq[j]!<=(i:Int)
   ·simp only[cG,cD,n0,bB n1,e',i1,i2,cW,d1,d0,e1,j1,j2,b1]
   ·have b2:=hb.resolve_left b1;simp only[cG,cD,n0,bB n1,e',i1,i2,cW,d1,d0,e1,j1,j2,b1,b2]
def ext_get{α:Type}[Inhabited α]{a b:af α}(hl:zY a=zY b)(h:∀j,j<zY a->a[j]! =b[j]!):a=b:=by
 apply xw hl;intro i h1 h2;have:=h i h1
 rwa [getElem!_pos a i h1,getElem!_pos b i h2]at this
def Xo(c:af Cell)(i x:Nat):Prop:=x=0\/(x:Int)∈fJ (c.take i)
instance {c:List Cell} {i x:Nat}:Decidable (Xo c i x):=inferInstanceAs (Decidable (_\/_))
def Mb(c:af Cell)(i:Nat):af Bool:=(zH (zY c)).map λx=>vn (Xo c i x)
def Ei(c:af Cell)(f:aS)(i:Nat):af Part:=(zH (zY c)).map λj=>if j<i then⟨c[j]!.aZ,c[j]!.eN,c[j]!.aq,(dD c f i)[j]!⟩else⟨0,0,[],(dD c f i)[j]!⟩
section
variable {f:aS} {v:bU} {c:af Cell}
def A9(i:Nat):zY (Mb c i)=zY c:=by unfold Mb;simp
def kE(i:Nat):zY (Ei c f i)=zY c:=by unfold Ei;simp
def lS{i x:Nat}(h:x<zY c):(Mb c i)[x]! =vn (Xo c i x):=by
 unfold Mb;rw[gX _ _ _ (by simpa using h),getElem!_pos _ x (by simpa using h),wo]
def jv{i x:Nat}(h:x<zY c):(Ei c f i)[x]! =if x<i then⟨c[x]!.aZ,c[x]!.eN,c[x]!.aq,(dD c f i)[x]!⟩else⟨0,0,[],(dD c f i)[x]!⟩:=by
 unfold Ei;rw[gX _ _ _ (by simpa using h),getElem!_pos _ x (by simpa using h),wo]
def aeT(l:af Part)(R:af Bool)(i:Nat)(t32:af Cell)(t33 t34:Int)(ks:af Int)(x:Cell)(hks:zY ks<=1000)(hl:zY l=zY c)(hR:zY R=zY c):
  ∃(j:Nat) (Q:af Bool),QA ⟨l,R,(i:Int),t32,t33,t34,ks,(zY ks:Int),0,x⟩=V ⟨l,Q,(i:Int),t32,t33,t34,ks,(zY ks:Int),(j:Int),x⟩/\zY Q=zY c/\(∀y,y<zY c->Q[y]! =(R[y]! ||vn ((y:Int)∈ks.take j)))/\(∀k,k<j->∃a:Nat,ks[k]! =(a:Int)/\i<a/\a<zY c/\R[a]! =O/\(a:Int)∉ks.take k)/\
   (j=zY ks\/j<zY ks/\(ks[j]!<=(i:Int)\/(¬ks[j]!<=(i:Int)/\(zY c:Int)<=ks[j]!)\/∃a:Nat,ks[j]! =(a:Int)/\i<a/\a<zY c/\Q[a]! =J)):=by
 obtain⟨j,Q,e,⟨h1,h2,h3⟩,hS⟩:=jq (rnd:=HO) (zY ks) (λj (Q:af Bool)=>⟨l,Q,(i:Int),t32,t33,t34,ks,(zY ks:Int),(j:Int),x⟩) (λj Q=>zY Q=zY c/\(∀y,y<zY c->Q[y]! =(R[y]! ||vn ((y:Int)∈ks.take j)))/\∀k,k<j->∃a:Nat,ks[k]! =(a:Int)/\i<a/\a<zY c/\R[a]! =O/\(a:Int)∉ks.take k) (λj Q=>ks[j]!<=(i:Int)\/(¬ks[j]!<=(i:Int)/\(zY c:Int)<=ks[j]!)\/∃a:Nat,ks[j]! =(a:Int)/\i<a/\a<zY c/\Q[a]! =J) (λj Q hj ⟨h1,h2,h3⟩=>by
  have hw:=jR hj au;have i1:(j:Int)<(zY ks:Int):=au;have i2:(0:Int)<=(j:Int):=au;by_cases g1:ks[j]!<=(i:Int)
  ·refine .inr ⟨?_, .inl g1⟩;unfold HO mZ;simp only[cG,i1,i2,cK,cW,g1]
  ·by_cases g2:(zY c:Int)<=ks[j]!
   ·refine .inr ⟨?_, .inr (.inl ⟨g1,g2⟩)⟩;unfold HO mZ;simp only[cG,cD,i1,i2,hl,cW,g1,g2]
   ·obtain⟨a,ha⟩:∃a:Nat,ks[j]! =(a:Int):=⟨ks[j]!.toNat,au⟩;have a5:(a:Int)<(zY c:Int):=au;have a6:(0:Int)<=(a:Int):=au;have a7:a<zY c:=au;rw[ha]at g1 g2;cases hq:Q[a]! with
    |true=>
     refine .inr ⟨?_, .inr (.inr ⟨a,ha,au,a7,hq⟩)⟩;unfold HO mZ;simp only[cG,cD,i1,i2,hl,h1,ha,a5,a6,a7,hq,cW,g1,g2]
    |false=>
     have hqa:=h2 a a7;rw[hq]at hqa;have hqa:=hqa.symm;rw[Bool.or_eq_false_iff,decide_eq_false_iff_not]at hqa;refine .inl ⟨Q.set a J,?_,by rw[zI];exact h1,λy hy=> ?_,λk hk=> ?_⟩
     ·unfold HO mZ;simp only[cG,cD,i1,i2,hl,h1,ha,a5,a6,a7,hq,cW,g1,g2,hw]
     ·rw[dF _ _ _ _ au,bE hj,ha];by_cases e:a=y
      ·subst e;simp
      ·have:((y:Int)∈ks.take j++[(a:Int)])↔(y:Int)∈ks.take j:=by simp;omega
       rw[bL e,h2 y hy,decide_eq_decide.2 this]
     ·by_cases e:k=j
      ·rw[e];exact⟨a,ha,au,a7,hqa.1,hqa.2⟩
      ·exact h3 k au) (λQ _=>by unfold HO mZ;simp) (b:=R) ⟨hR,λy hy=>by simp,λk hk=>au⟩
 exact⟨j,Q,e,h1,h2,h3,hS⟩
structure Inv (c:List Cell) (f:aS) (i:Nat):Prop where
 Je:∀j,j<i->OkK c j
 rng:∀j,j<i->Ed c f j
 rch:∀j,j<i->Xo c j j
 one:∀x:Nat,(fJ (c.take i)).count (x:Int)<=1
 box:∀j,j<zY c->Xo c i j->mW f (dD c f i)[j]!
def Bad(c:af Cell)(f:aS)(i:Nat):Prop:=¬Xo c i i\/(Xo c i i/\((zY c[i]!.aq=0/\¬c[i]!.aZ=0)\/(zY c[i]!.aq=0/\c[i]!.aZ=0/\¬c[i]!.eN=0)\/(¬c[i]!.aq.length=0/\¬c[i]!.aq.length=2)\/(zY c[i]!.aq=2/\¬Ed c f i)\/
 (zY c[i]!.aq=2/\Ed c f i/\∃(j:Nat) (Q:af Bool),QA ⟨Ei c f i,Mb c i,(i:Int),c,(zY c:Int),(i:Int),c[i]!.aq,(zY c[i]!.aq:Int),0,c[i]!⟩=V ⟨Ei c f i,Q,(i:Int),c,(zY c:Int),(i:Int),c[i]!.aq,(zY c[i]!.aq:Int),(j:Int),c[i]!⟩/\zY Q=zY c/\(∀y,y<zY c->Q[y]! =((Mb c i)[y]! ||vn ((y:Int)∈c[i]!.aq.take j)))/\j<zY c[i]!.aq/\
  (c[i]!.aq[j]!<=(i:Int)\/(¬c[i]!.aq[j]!<=(i:Int)/\(zY c:Int)<=c[i]!.aq[j]!)\/∃a:Nat,c[i]!.aq[j]! =(a:Int)/\i<a/\a<zY c/\Q[a]! =J))))
def Bad.no{i:Nat}(hi:i<zY c)(h:Bad c f i):¬(BA c/\∀j,j<zY c->Ed c f j):=λ⟨hs,hr⟩=>by
 rcases h with h|⟨-,⟨h1,h2⟩|⟨h1,h2,h3⟩|⟨h1,h2⟩|⟨h1,h2⟩|⟨h1,h2,j,Q,-,hQ,hq,hj,hb⟩⟩
 ·refine h ?_;by_cases h0:i=0
  ·exact .inl h0
  ·obtain⟨p,p1,p2⟩:=hs.up hi h0;exact .inr ((je au).2 ⟨p,p1,p2⟩)
 ·rcases hs.Je i hi with ⟨_,e,_⟩|⟨a,b,e,_⟩
  ·exact h2 e
  ·rw[e]at h1;cases h1
 ·rcases hs.Je i hi with ⟨_,_,e⟩|⟨a,b,e,_⟩
  ·exact h3 e
  ·rw[e]at h1;cases h1
 ·rcases hs.Je i hi with ⟨e,_⟩|⟨a,b,e,_⟩<;>rw[e]at h1 h2<;>simp at h1 h2
 ·exact h2 (hr i hi)
 ·have hm:c[i]!.aq[j]!∈c[i]!.aq:=bf hj;obtain⟨a,ea,a1,a2⟩:=hs.lt hi hm;rcases hb with hb|⟨_,hb⟩|⟨a',eb,_,_,hb⟩
  ·omega
  ·omega
  ·have:a'=a:=au;subst this;rw[hq a' a2,lS a2,yC,decide_eq_true_eq,decide_eq_true_eq]at hb;rw[ea]at hm;rcases hb with (hb|hb)|hb
   ·omega
   ·obtain⟨p,p1,p2⟩:=(je au).1 hb;exact Ke (hs.le1 a' a2) p1 hi p2 hm
   ·rcases hs.Je i hi with ⟨e,_⟩|⟨x,y,e,_⟩
    ·rw[e]at hb;simp at hb
    ·have hab:=hs.ab hi e;rw[e]at hb ea hj;have hj:j<2:=hj;by_cases j0:j=0
     ·rw[j0]at hb;simp at hb
     ·have j1:j=1:=au;subst j1;have ea:(y:Int)=(a':Int):=ea;have hb:(a':Int)∈[(x:Int)]:=hb;have:=zo.1 hb;omega
def ajb(hl:zY c<=8192){i:Nat}(hi:i<zY c)(h:Bad c f i):D4 ⟨Ei c f i,Mb c i,c,(zY c:Int),(i:Int)⟩=V G:=by
 have i1:(i:Int)<(zY c:Int):=au;have i2:(0:Int)<=(i:Int):=au;have l1:=kE (c:=c) (f:=f) i;have l2:=A9 (c:=c) i;have gR:=lS (c:=c) (i:=i) hi;have gB:(Ei c f i)[i]!.dw=(dD c f i)[i]! :=by rw[jv hi];split<;>rfl
 unfold D4 A6 mZ;rcases h with h|⟨h0,h⟩
 ·rw[bW h]at gR;simp only[cG,cD,i1,i2,hi,l1,l2,gR,cW]
 rw[bX h0]at gR;have z0:¬(2:Int)=0:=by decide
 rcases h with ⟨h1,h2⟩|⟨h1,h2,h3⟩|⟨h1,h2⟩|⟨h1,h2⟩|⟨h1,h2,j,Q,e,hQ,-,hj,hb⟩
 ·have h1:(zY c[i]!.aq:Int)=0:=au;simp only[cG,cD,i1,i2,hi,l1,l2,gR,h1,h2,cW]
 ·have h1:(zY c[i]!.aq:Int)=0:=au;simp only[cG,cD,i1,i2,hi,l1,l2,gR,h1,h2,h3,cW]
 ·have h1:¬(zY c[i]!.aq:Int)=0:=au;have h2:¬(zY c[i]!.aq:Int)=2:=au;simp only[cG,cD,i1,i2,hi,l1,l2,gR,h1,h2,cW]
 ·have h1:(zY c[i]!.aq:Int)=2:=au;obtain⟨-,hn⟩:=Ed.no h2;rcases hn with d1|⟨d1,d2⟩|⟨d1,d2,d3⟩|⟨d1,d2,d3,d4⟩
  ·simp only[cG,cD,i1,i2,hi,l1,l2,gR,gB,h1,z0,d1,cW]
  ·simp only[cG,cD,i1,i2,hi,l1,l2,gR,gB,h1,z0,d1,d2,cW]
  ·have z1:(0:Int)<=c[i]!.aZ:=au;have z2:c[i]!.aZ<((dD c f i)[i]!.length:Int):=au;simp only[cG,cD,i1,i2,hi,l1,l2,gR,gB,h1,z0,d1,d2,d3,z1,z2,cW]
  ·have z1:(0:Int)<=c[i]!.aZ:=au;have z2:c[i]!.aZ<((dD c f i)[i]!.length:Int):=au;simp only[cG,cD,i1,i2,hi,l1,l2,gR,gB,h1,z0,d1,d2,d3,d4,z1,z2,cW]
 ·have h1':(zY c[i]!.aq:Int)=2:=au;obtain⟨r1,r2,r3,r4⟩:=h2 (by intro e;rw[e]at h1;cases h1);have d1:¬c[i]!.aZ<0:=au;have d2:¬((dD c f i)[i]!.length:Int)<=c[i]!.aZ:=au;have d3:¬c[i]!.eN<(dD c f i)[i]![c[i]!.aZ.toNat]!.ah:=au;have d4:¬(dD c f i)[i]![c[i]!.aZ.toNat]!.ag<=c[i]!.eN:=au;have j1:(j:Int)<2:=au;have j2:(0:Int)<=(j:Int):=au;rw[h1']at e;rcases hb with b1|⟨b1,b2⟩|⟨a,ea,a1,a2,b3⟩
  ·simp only[cG,cD,i1,i2,hi,l1,l2,gR,gB,h1',z0,d1,d2,d3,d4,r1,r2,e,j1,j2,b1,cW]
  ·simp only[cG,cD,i1,i2,hi,l1,l2,gR,gB,h1',z0,d1,d2,d3,d4,r1,r2,e,j1,j2,b1,b2,cW]
  ·have c1:¬(a:Int)<=(i:Int):=au;have c2:¬(zY c:Int)<=(a:Int):=au;have c3:(0:Int)<=(a:Int):=au;have c4:(a:Int)<(zY c:Int):=au;simp only[cG,cD,i1,i2,hi,l1,l2,gR,gB,h1',z0,d1,d2,d3,d4,r1,r2,e,j1,j2,ea,c1,c2,c3,c4,a2,hQ,b3,cW]
def awY{t:aW}(ht:t.aN=c)(h0:0<zY c):(lF t).set 0 (Part.mk (lF t)[0]!.aZ (lF t)[0]!.eN (lF t)[0]!.aq (mX f))=Ei c f 0:=by
 have e:lF t=zf (zY c) (Part.mk 0 0 [] []):=by unfold lF;rw[ht]<;>simp
 have eg:∀j,j<zY c->(zf (zY c) (Part.mk 0 0 [] []))[j]! =Part.mk 0 0 [] []:=λj hj=>by
  rw[getElem!_pos _ j (by simpa using hj),wF]
 refine ext_get (by rw[e,kE];simp) λj hj=> ?_;rw[e]at hj ⊢;have hj:j<zY c:=by simpa using hj
 rw[dF _ _ _ _ (by simpa using hj),eg 0 h0,eg j hj,jv hj,bL (show ¬j<0 by omega)];unfold dD;rw[dF _ _ _ _ (by simpa using hj),getElem!_pos (zf (zY c) ([]:af aK)) j (by simpa using hj),wF];by_cases h:0=j
 ·rw[bB h,bB h]
 ·rw[bL h,bL h]
def apd(h0:0<zY c):(zf (zY c) O).set 0 J=Mb c 0:=by
 refine ext_get (by rw[A9];simp) λj hj=> ?_;have hj:j<zY c:=by simpa using hj
 rw[dF _ _ _ _ (by simpa using hj),lS hj,getElem!_pos _ j (by simpa using hj),wF];unfold Xo;by_cases e:j=0
 ·subst e;simp
 ·rw[bL (λh=>e h.symm)];simp[e,fJ]
def agE(q:Cx f v)(hl:zY c<=8192){i:Nat}(hi:i<zY c)(h:Bad c f i){t:aW}(ht:t.aN=c)(e0:PD ⟨Ei c f 0,Mb c 0,c,(zY c:Int),0⟩=V ⟨Ei c f i,Mb c i,c,(zY c:Int),(i:Int)⟩):m60 f t=V ([],O):=by
 have i1:(i:Int)<(zY c:Int):=au;have i2:(0:Int)<=(i:Int):=au;have l1:=kE (c:=c) (f:=f) i;have l2:=A9 (c:=c) i;have gR:=lS (c:=c) (i:=i) hi;have gB:(Ei c f i)[i]!.dw=(dD c f i)[i]! :=by rw[jv hi];split<;>rfl
 have n0:¬(zY c:Int)=0:=au;have n1:(0:Int)<=(zY c:Int):=au;have n2:(zY c:Int)<=1073741824:=au;have n3:(0:Int)<(zY c:Int):=au;have n4:0<zY c:=au;have ue:Tk f=V (mX f):=by
  unfold Tk;rw[aa8 f (kK q.hc) q.hl]
 have ls:=awY (f:=f) ht n4;have lr:=apd (c:=c) n4;have l4:zY (lF t)=zY c:=by unfold lF;rw[ht];simp
 have l5:zY (zf (zY c) O)=zY c:=by simp
 unfold m60 A6 mZ;rw[ht];rcases h with h|⟨h0,h⟩
 ·rw[bW h]at gR;simp only[cG,cD,n0,n1,n2,n3,n4,zj,ue,l4,l5,ls,lr,e0,i1,i2,hi,l1,l2,gR,cW]
 rw[bX h0]at gR;have z0:¬(2:Int)=0:=by decide
 rcases h with ⟨h1,h2⟩|⟨h1,h2,h3⟩|⟨h1,h2⟩|⟨h1,h2⟩|⟨h1,h2,j,Q,e,hQ,-,hj,hb⟩
 ·have h1:(zY c[i]!.aq:Int)=0:=au;simp only[cG,cD,n0,n1,n2,n3,n4,zj,ue,l4,l5,ls,lr,e0,i1,i2,hi,l1,l2,gR,h1,h2,cW]
 ·have h1:(zY c[i]!.aq:Int)=0:=au;simp only[cG,cD,n0,n1,n2,n3,n4,zj,ue,l4,l5,ls,lr,e0,i1,i2,hi,l1,l2,gR,h1,h2,h3,cW]
 ·have h1:¬(zY c[i]!.aq:Int)=0:=au;have h2:¬(zY c[i]!.aq:Int)=2:=au;simp only[cG,cD,n0,n1,n2,n3,n4,zj,ue,l4,l5,ls,lr,e0,i1,i2,hi,l1,l2,gR,h1,h2,cW]
 ·have h1:(zY c[i]!.aq:Int)=2:=au;obtain⟨-,hn⟩:=Ed.no h2;rcases hn with d1|⟨d1,d2⟩|⟨d1,d2,d3⟩|⟨d1,d2,d3,d4⟩
  ·simp only[cG,cD,n0,n1,n2,n3,n4,zj,ue,l4,l5,ls,lr,e0,i1,i2,hi,l1,l2,gR,gB,h1,z0,d1,cW]
  ·simp only[cG,cD,n0,n1,n2,n3,n4,zj,ue,l4,l5,ls,lr,e0,i1,i2,hi,l1,l2,gR,gB,h1,z0,d1,d2,cW]
  ·have z1:(0:Int)<=c[i]!.aZ:=au;have z2:c[i]!.aZ<((dD c f i)[i]!.length:Int):=au;simp only[cG,cD,n0,n1,n2,n3,n4,zj,ue,l4,l5,ls,lr,e0,i1,i2,hi,l1,l2,gR,gB,h1,z0,d1,d2,d3,z1,z2,cW]
  ·have z1:(0:Int)<=c[i]!.aZ:=au;have z2:c[i]!.aZ<((dD c f i)[i]!.length:Int):=au;simp only[cG,cD,n0,n1,n2,n3,n4,zj,ue,l4,l5,ls,lr,e0,i1,i2,hi,l1,l2,gR,gB,h1,z0,d1,d2,d3,d4,z1,z2,cW]
 ·have h1':(zY c[i]!.aq:Int)=2:=au;obtain⟨r1,r2,r3,r4⟩:=h2 (by intro e;rw[e]at h1;cases h1);have d1:¬c[i]!.aZ<0:=au;have d2:¬((dD c f i)[i]!.length:Int)<=c[i]!.aZ:=au;have d3:¬c[i]!.eN<(dD c f i)[i]![c[i]!.aZ.toNat]!.ah:=au;have d4:¬(dD c f i)[i]![c[i]!.aZ.toNat]!.ag<=c[i]!.eN:=au;have j1:(j:Int)<2:=au;have j2:(0:Int)<=(j:Int):=au;rw[h1']at e;rcases hb with b1|⟨b1,b2⟩|⟨a,ea,a1,a2,b3⟩
  ·simp only[cG,cD,n0,n1,n2,n3,n4,zj,ue,l4,l5,ls,lr,e0,i1,i2,hi,l1,l2,gR,gB,h1',z0,d1,d2,d3,d4,r1,r2,e,j1,j2,b1,cW]
  ·simp only[cG,cD,n0,n1,n2,n3,n4,zj,ue,l4,l5,ls,lr,e0,i1,i2,hi,l1,l2,gR,gB,h1',z0,d1,d2,d3,d4,r1,r2,e,j1,j2,b1,b2,cW]
  ·have c1:¬(a:Int)<=(i:Int):=au;have c2:¬(zY c:Int)<=(a:Int):=au;have c3:(0:Int)<=(a:Int):=au;have c4:(a:Int)<(zY c:Int):=au;simp only[cG,cD,n0,n1,n2,n3,n4,zj,ue,l4,l5,ls,lr,e0,i1,i2,hi,l1,l2,gR,gB,h1',z0,d1,d2,d3,d4,r1,r2,e,j1,j2,ea,c1,c2,c3,c4,a2,hQ,b3,cW]
def asV(q:Cx f v)(hl:zY c<=8192){i:Nat}(hi:i<zY c)(I:Inv c f i)(h:¬Bad c f i):D4 ⟨Ei c f i,Mb c i,c,(zY c:Int),(i:Int)⟩=V (V ⟨Ei c f (i+1),Mb c (i+1),c,(zY c:Int),((i+1:Nat):Int)⟩)/\Inv c f (i+1):=by
 obtain⟨i1,i2,hw⟩:=w3 hi au;have l1:=kE (c:=c) (f:=f) i;have l2:=A9 (c:=c) i;have gR:=lS (c:=c) (i:=i) hi;have gB:(Ei c f i)[i]! =⟨0,0,[],(dD c f i)[i]!⟩:=by rw[jv hi,bL (Nat.lt_irrefl i)]
 have h0:Xo c i i:=Classical.byContradiction λh'=>h (.inl h');have hb:=I.box i hi h0;rw[bX h0]at gR;have sK:∀{P:Nat->Prop},(∀j,j<i->P j)->P i->∀j,j<i+1->P j:=λh1 h2 j hj=>by
  by_cases e:j=i
  ·rw[e];exact h2
  ·exact h1 j au
 by_cases k0:zY c[i]!.aq=0
 ·have e:=xu.1 k0;have z1:c[i]!.aZ=0:=Classical.byContradiction λh'=>h (.inr ⟨h0, .inl ⟨k0,h'⟩⟩);have z2:c[i]!.eN=0:=Classical.byContradiction λh'=>h (.inr ⟨h0, .inr (.inl ⟨k0,z1,h'⟩)⟩);have eb:dD c f (i+1)=dD c f i:=by
   conv=>lhs;unfold dD
   rw[e]
  have ek:fJ (c.take (i+1))=fJ (c.take i):=by rw[iw hi,e,yu]
  have el:Ei c f (i+1)=Ei c f i:=by
   refine ext_get (by rw[kE,kE]) λj hj=> ?_;rw[kE]at hj;rw[jv hj,jv hj,eb];by_cases h1:j<i
   ·rw[bB h1,gM]
   ·by_cases h2:j=i
    ·subst h2;rw[gM,bL h1,e,z1,z2]
    ·rw[bL h1,qZ]
  have er:Mb c (i+1)=Mb c i:=zX λx _=>decide_eq_decide.2 (by unfold Xo;rw[ek]);refine⟨?_,sK I.Je (.inl ⟨e,z1,z2⟩),sK I.rng λh'=>dS e h',sK I.rch h0,by rw[ek];exact I.one,λj hj hr=> ?_⟩
  ·have k0':(zY c[i]!.aq:Int)=0:=au;rw[el,er];unfold D4 A6 mZ;simp only[cG,cD,i1,i2,hi,l1,l2,gR,k0',z1,z2,cW,hw]
  ·rw[eb];unfold Xo at hr;rw[ek]at hr;exact I.box j hj hr
 have k2:zY c[i]!.aq=2:=Classical.byContradiction λh'=>h (.inr ⟨h0, .inr (.inr (.inl ⟨k0,h'⟩))⟩);have hg:Ed c f i:=Classical.byContradiction λh'=>h (.inr ⟨h0, .inr (.inr (.inr (.inl ⟨k2,h'⟩)))⟩);obtain⟨j,Q,e,hQ,hq,hk,hS⟩:=aeT (c:=c) (Ei c f i) (Mb c i) i c (zY c:Int) (i:Int) c[i]!.aq c[i]! au l1 l2;have hjl:j=zY c[i]!.aq:=by
  rcases hS with hjl|⟨hj,hS⟩
  ·exact hjl
  ·exact dS (.inr ⟨h0, .inr (.inr (.inr (.inr ⟨k2,hg,j,Q,e,hQ,hq,hj,hS⟩)))⟩) h
 subst hjl;obtain⟨a,ea,a1,a2,a3,a4⟩:=hk 0 au;obtain⟨b,eb',b1,b2,b3,b4⟩:=hk 1 au;have ek:c[i]!.aq=[(a:Int),(b:Int)]:=by
  match hh:c[i]!.aq,k2 with
  |[x,y],_=>
   rw[hh]at ea eb';rw[show x=(a:Int)from ea,show y=(b:Int)from eb']
 have hab:a≠b:=λe'=>by
  subst e';rw[ek]at b4;simp at b4
 rw[lS a2,decide_eq_false_iff_not]at a3;rw[lS b2,decide_eq_false_iff_not]at b3;have hkt:fJ (c.take (i+1))=fJ (c.take i)++[(a:Int),(b:Int)]:=by rw[iw hi,ek]
 obtain⟨r1,r2,r3,r4⟩:=hg (by rw[ek];simp);obtain⟨n,hn⟩:∃n:Nat,c[i]!.aZ=(n:Int):=⟨c[i]!.aZ.toNat,au⟩;rw[hn]at r1 r2 r3 r4;rw[zg]at r3 r4;have hnl:n<(dD c f i)[i]!.length:=au;have hd:=hb.bd q.hc hnl;have hidl:=EH q;have aj1:=alg (b:=(dD c f i)[i]!) (by rw[hb.len];omega) hnl (a:=c[i]!.eN) au au;have eb:dD c f (i+1)=((dD c f i).set a (ZS (dD c f i)[i]! n c[i]!.eN)).set b (bHi (dD c f i)[i]! n c[i]!.eN):=by
  conv=>lhs;unfold dD
  rw[ek,hn];rfl
 have gbx:∀x,x<zY c->(dD c f (i+1))[x]! =if b=x then bHi (dD c f i)[i]! n c[i]!.eN else if a=x then ZS (dD c f i)[i]! n c[i]!.eN else(dD c f i)[x]! :=λx hx=>by
  rw[eb,dF _ _ _ _ (by rw[zI,jL];exact hx),dF _ _ _ _ (by rw[jL];exact hx)]
 have eQ:Q=Mb c (i+1):=by
  refine ext_get (by rw[hQ,A9]) λy hy=> ?_;rw[hQ]at hy;rw[hq y hy,lS hy,lS hy,zy,ek,Bool.eq_iff_iff,yC,decide_eq_true_eq,decide_eq_true_eq,decide_eq_true_eq];unfold Xo;rw[hkt,zP];exact or_assoc
 refine⟨?_,sK I.Je (.inr ⟨a,b,ek,a1,a2,b1,b2⟩),sK I.rng hg,sK I.rch h0,λx=> ?_,λx hx hr=> ?_⟩
 ·obtain⟨l,hl'⟩:∃l,l=Ei c f i:=⟨_,rfl⟩;have la:l[a]! =⟨0,0,[],(dD c f i)[a]!⟩:=by rw[hl',jv a2,qZ]
  have lb:l[b]! =⟨0,0,[],(dD c f i)[b]!⟩:=by rw[hl',jv b2,qZ]
  rw[<-hl']at gB l1 e;have gs:∀x:Part,(l.set i x)[i]! =x:=λx=>by rw[dF _ _ _ _ au,bB rfl]
  have g3:DA ⟨l,Q,(i:Int),c,(zY c:Int),(i:Int),c[i]!.aq,(zY c[i]!.aq:Int),(zY c[i]!.aq:Int),c[i]!⟩=l.set i ⟨(n:Int),0,[],(dD c f i)[i]!⟩:=by
   unfold DA;simp only[zg,gB,hn]
  have g1:DV ⟨l,Q,(i:Int),c,(zY c:Int),(i:Int),c[i]!.aq,(zY c[i]!.aq:Int),(zY c[i]!.aq:Int),c[i]!⟩=l.set i ⟨(n:Int),c[i]!.eN,[],(dD c f i)[i]!⟩:=by
   unfold DV;rw[g3];simp only[zg,gs,List.set_set]
  have g0:sO ⟨l,Q,(i:Int),c,(zY c:Int),(i:Int),c[i]!.aq,(zY c[i]!.aq:Int),(zY c[i]!.aq:Int),c[i]!⟩=l.set i ⟨(n:Int),c[i]!.eN,c[i]!.aq,(dD c f i)[i]!⟩:=by
   unfold sO;rw[g1];simp only[zg,gs,List.set_set]
  have g2:∀w:af aK,DZ ⟨l,Q,(i:Int),c,(zY c:Int),(i:Int),c[i]!.aq,(zY c[i]!.aq:Int),(zY c[i]!.aq:Int),c[i]!⟩ (ZS (dD c f i)[i]! n c[i]!.eN,w)=(l.set i ⟨(n:Int),c[i]!.eN,c[i]!.aq,(dD c f i)[i]!⟩).set a ⟨0,0,[],ZS (dD c f i)[i]! n c[i]!.eN⟩:=λw=>by
   unfold DZ;rw[g0];simp only[ea,zg];rw[dF _ _ _ _ au,qZ,la]
  have gf:((l.set i ⟨(n:Int),c[i]!.eN,c[i]!.aq,(dD c f i)[i]!⟩).set a ⟨0,0,[],ZS (dD c f i)[i]! n c[i]!.eN⟩).set b ⟨0,0,[],bHi (dD c f i)[i]! n c[i]!.eN⟩=Ei c f (i+1):=by
   refine ext_get (by rw[zI,zI,zI,l1,kE]) λx hx=> ?_;rw[zI,zI,zI,l1]at hx;rw[dF _ _ _ _ (by rw[zI,zI];omega),dF _ _ _ _ (by rw[zI];omega),dF _ _ _ _ au,jv hx,gbx x hx,hl',jv hx];by_cases xb:b=x
   ·subst xb;rw[bB rfl,qZ,bB rfl]
   ·rw[bL xb,bL xb];by_cases xa:a=x
    ·subst xa;rw[bB rfl,qZ,bB rfl]
    ·rw[bL xa,bL xa];by_cases xi:i=x
     ·subst xi;rw[bB rfl,gM,hn]
     ·rw[bL xi];by_cases h1:x<i
      ·rw[bB h1,gM]
      ·rw[bL h1,qZ]
  rw[<-gf,<-eQ,<-hl'];have gl:∀x:Part,zY (l.set i x)=zY c:=λx=>by rw[zI,l1]
  have gl2:∀x y:Part,zY ((l.set i x).set a y)=zY c:=λx y=>by rw[zI,gl]
  have gb:∀x y:Part,((l.set i x).set a y)[b]! =⟨0,0,[],(dD c f i)[b]!⟩:=λx y=>by
   rw[dF _ _ _ _ (by rw[gl];exact b2),bL hab,dF _ _ _ _ au,qZ,lb]
  have z0:¬(2:Int)=0:=by decide
  have h1':(zY c[i]!.aq:Int)=2:=au;have d1:¬(n:Int)<0:=au;have d2:¬((dD c f i)[i]!.length:Int)<=(n:Int):=au;have d3:¬c[i]!.eN<(dD c f i)[i]![n]!.ah:=au;have d4:¬(dD c f i)[i]![n]!.ag<=c[i]!.eN:=au;have c3:(0:Int)<=(a:Int):=au;have c4:(a:Int)<(zY c:Int):=au;have c5:(0:Int)<=(b:Int):=au;have c6:(b:Int)<(zY c:Int):=au;have y0:(0:Int)<2:=by decide
  have y1:(1:Int)<2:=by decide
  have y2:(0:Int)<=1:=by decide
  have t0:zq 0=0:=rfl;have t1:zq 1=1:=rfl;rw[h1']at e g3 g1 g0 g2;unfold D4 A6 mZ;simp only[cG,cD,i1,i2,hi,l1,l2,gR,gB,h1',z0,hn,d1,d2,d3,d4,r1,r2,e,yx,zj,g3,g1,g0,g2,gl,gl2,gs,gb,aj1,y0,y1,y2,t0,t1,ea,eb',c3,c4,c5,c6,a2,b2,cW,hw]
 ·rw[hkt,xZ];have h1:=I.one x;by_cases xa:x=a
  ·subst xa;have:(fJ (c.take i)).count (x:Int)=0:=wz.2 λhm=>a3 (.inr hm);rw[this,List.count_cons_self,wz.2 (show (x:Int)∉[(b:Int)]by simp;omega)];exact zl _
  ·have e1:([(a:Int),(b:Int)]).count (x:Int)=([(b:Int)]).count (x:Int):=List.count_cons_of_ne au;rw[e1];by_cases xb:x=b
   ·subst xb;have:(fJ (c.take i)).count (x:Int)=0:=wz.2 λhm=>b3 (.inr hm);rw[this,List.count_cons_self];exact zl _
   ·rw[wz.2 (show (x:Int)∉[(b:Int)]by simp;omega)];exact h1
 ·rw[gbx x hx];by_cases xb:b=x
  ·rw[bB xb];exact aqy hb hnl r3 r4
  ·rw[bL xb];by_cases xa:a=x
   ·rw[bB xa];exact aqA hb hnl r3 r4
   ·rw[bL xa];refine I.box x hx ?_;unfold Xo at hr;rw[hkt]at hr;simp at hr;rcases hr with h|h|h|h
    ·exact .inl h
    ·exact .inr h
    ·omega
    ·omega
def auI(q:Cx f v)(hl:zY c<=8192){t:aW}(ht:t.aN=c):∃r,m60 f t=V r/\((r.2=J/\r.1=ja c f c.length/\BA c/\∀i,i<zY c->Ed c f i)\/(r.2=O/\¬(BA c/\∀i,i<zY c->Ed c f i))):=by
 by_cases hz:zY c=0
 ·refine⟨([],O),?_, .inr ⟨rfl,λh=> ?_⟩⟩
  ·unfold m60 A6 mZ;simp only[ht,hz,Int.natCast_zero,DB,cK]
  ·have:=h.1.ne;omega
 have hpos:0<zY c:=au;obtain⟨i,-,e,I,hS⟩:=jq (rnd:=D4) (zY c) (λi (_:Unit)=>⟨Ei c f i,Mb c i,c,(zY c:Int),(i:Int)⟩) (λi _=>Inv c f i) (λi _=>Bad c f i) (λi _ hi I=>by
  by_cases hb:Bad c f i
  ·exact .inr ⟨ajb hl hi hb,hb⟩
  ·obtain⟨h1,h2⟩:=asV q hl hi I hb;exact .inl ⟨(),h1,h2⟩) (λ_ _=>by unfold D4 A6 mZ;simp) (b:=()) ⟨λj hj=>au,λj hj=>au,λj hj=>au,λx=>by simp[fJ],λj hj hr=>by
    have h0:j=0:=by
     unfold Xo at hr;simpa [fJ]using hr
    subst h0;unfold dD;rw[dF _ _ _ _ (by simpa using hj),bB rfl];exact L8 q⟩
 have e':PD ⟨Ei c f 0,Mb c 0,c,(zY c:Int),0⟩=V ⟨Ei c f i,Mb c i,c,(zY c:Int),(i:Int)⟩:=e;rcases hS with rfl|⟨hi,hb⟩
 ·have hs:BA c:=⟨hpos,I.Je,λk hk=>by
   have h1:=I.one k;rw[zy]at h1;by_cases k0:k=0
   ·rw[bB k0];refine wz.2 λhm=> ?_;rw[<-zy (l:=c)]at hm;obtain⟨p,p1,p2⟩:=(je (zl _)).1 hm;obtain⟨a,ea,a1,_⟩:=(I.Je p p1).all _ p2;omega
   ·rw[bL k0];have hm:=(I.rch k hk).resolve_left k0;obtain⟨p,p1,p2⟩:=(je au).1 hm;have hm':(k:Int)∈fJ (c.take (zY c)):=(je (zl _)).2 ⟨p,au,p2⟩;rw[zy]at hm';have:=List.count_pos_iff.2 hm';omega⟩
  refine⟨(Ei c f (zY c),J),?_, .inl ⟨rfl,?_,hs,I.rng⟩⟩
  ·have n0:¬(zY c:Int)=0:=au;have n1:(0:Int)<=(zY c:Int):=au;have n2:(zY c:Int)<=1073741824:=au;have n3:(0:Int)<(zY c:Int):=au;have ue:Tk f=V (mX f):=by
    unfold Tk;rw[aa8 f (kK q.hc) q.hl]
   have ls:=awY (f:=f) ht hpos;have lr:=apd (c:=c) hpos;have l4:zY (lF t)=zY c:=by unfold lF;rw[ht];simp
   have l5:zY (zf (zY c) O)=zY c:=by simp
   unfold m60 A6 mZ;rw[ht];simp only[cG,n0,n1,n2,n3,hpos,zj,ue,l4,l5,ls,lr,e',yx,ct,cW]
  ·refine ext_get (by rw[kE,ig]) λx hx=> ?_;rw[kE]at hx;show (Ei c f (zY c))[x]! =_;rw[jv hx,bB hx,P4 f hx,hs.aAR f hx (zY c) au (zl _)]
 ·exact⟨([],O),agE q hl hi hb ht e', .inr ⟨rfl,hb.no hi⟩⟩
end
def Xr{l m:af Int}{i:Nat}(h:zY l=zY m)(hc:(i=zY l/\∀j,j<zY l->vn (l[j]! =m[j]!)=J)\/(i<zY l/\vn (l[i]! =m[i]!)=O)):(i=zY l/\l=m)\/(i<zY l/\¬l[i]! =m[i]!/\¬l=m):=by
 rcases hc with ⟨h1,h2⟩|⟨h1,h2⟩
 ·exact .inl ⟨h1,xw h λj j1 j2=>by
   have q:=of_decide_eq_true (h2 j j1)
   rwa [getElem!_pos l j j1,getElem!_pos m j j2]at q⟩
 ·have h2:=of_decide_eq_false h2;exact .inr ⟨h1,h2,λe=>h2 (by rw[e])⟩
def akP(l m:af Int)(hm:zY m<=1000):m98 l m=V (vn (l=m)):=by
 unfold m98 Jn;by_cases h:zY l=zY m
 case neg=>
  rw[bW (show ¬(zY l:Int)=(zY m:Int)by omega),bW (show ¬l=m from λe=>h (by rw[e]))];rfl
 rw[bX (show (zY l:Int)=(zY m:Int)by omega)];obtain⟨i,e1,hc⟩:=oy (rnd:=Ql) l (λi=>⟨l,m,(i:Int)⟩) (λi x=>vn (x=m[i]!)) (λi hi=>by
  obtain⟨i1,i2,hw⟩:=w3 hi au;have i3:(i:Int)<(zY m:Int):=au;refine⟨λh=> ?_,λh=> ?_⟩
  ·unfold Ql Jn;simp only[cG,cD,i1,i2,i3,h,hw,cW]
  ·unfold Ql Jn;simp only[cG,cD,i1,i2,i3,h,cW]) (by unfold Ql Jn;simp)
 have e1':W5 ⟨l,m,0⟩=V ⟨l,m,(i:Int)⟩:=e1;simp only[cD,e1'];rcases Xr h hc with ⟨rfl,e⟩|⟨hi,hno,e⟩
 ·rw[fD,ct,bX e]
 ·have i1:(i:Int)<(zY l:Int):=au;have i2:(0:Int)<=(i:Int):=au;have i3:(i:Int)<(zY m:Int):=au;simp only[cG,cD,i1,i2,i3,hno,e,cW]
def Ym(l m:af Int)(hm:zY m<=1000):m77 l m=V (vn (l=m)):=by
 unfold m77 JU;by_cases h:zY l=zY m
 case neg=>
  rw[bW (show ¬(zY l:Int)=(zY m:Int)by omega),bW (show ¬l=m from λe=>h (by rw[e]))];rfl
 rw[bX (show (zY l:Int)=(zY m:Int)by omega)];obtain⟨i,e1,hc⟩:=oy (rnd:=PE) l (λi=>⟨l,m,(zY l:Int),(i:Int)⟩) (λi x=>vn (x=m[i]!)) (λi hi=>by
  obtain⟨i1,i2,hw⟩:=w3 hi au;have i3:(i:Int)<(zY m:Int):=au;refine⟨λh=> ?_,λh=> ?_⟩
  ·unfold PE JU;simp only[cG,cD,i1,i2,i3,h,hw,cW]
  ·unfold PE JU;simp only[cG,cD,i1,i2,i3,h,cW]) (by unfold PE JU;simp)
 have e1':XO ⟨l,m,(zY l:Int),0⟩=V ⟨l,m,(zY l:Int),(i:Int)⟩:=e1;simp only[cD,e1'];rcases Xr h hc with ⟨rfl,e⟩|⟨hi,hno,e⟩
 ·rw[fD,ct,bX e]
 ·have i1:(i:Int)<(zY l:Int):=au;have i2:(0:Int)<=(i:Int):=au;have i3:(i:Int)<(zY m:Int):=au;simp only[cG,cD,i1,i2,i3,hno,e,cW]
def Hj(a b:aC)(hb:zY b.aM<=1000):Zu a b=V (vn (a=b)):=by
 unfold Zu;rw[Qi a b (.inr au)];dsimp only
 congr 1
 exact decide_eq_decide.2 ⟨λh=>oz h,λh=>by rw[h];exact sX b⟩
def Mn(a b:aC)(hb:zY b.aM<=1000):m31 a b=V (vn (a=b)):=by
 obtain⟨x,s⟩:=a;obtain⟨y,u⟩:=b;unfold m31;rw[akP _ _ hb];by_cases h:s=u
 ·by_cases k:x=y
  ·simp[h,k]
  ·simp[h,k]
 ·simp[h]
def adi(a b:Cell)(h1:zY b.aq<=1000)(h2:zY b.cv<=1000):∃r,Zs a b=V r:=by
 unfold Zs;rw[Ym _ _ h1,Ym _ _ h2];by_cases g1:a.aZ=b.aZ<;>by_cases g2:a.eN=b.eN<;>by_cases g3:a.fU=b.fU<;>by_cases g4:a.aq=b.aq<;>simp[g1,g2,g3,g4]
section
variable {f:aS} {v:bU}
def aev(q:Cx f v){t:aW}(hs:BA t.aN)(hg:∀i,i<zY t.aN->Ed t.aN f i)(hl:zY t.aN<=8192)(ht:zY t.cv<=40):∃r,m56 t (uM ((ja t.aN f (zY t.aN)).map (cellOf f v)))=V r/\m59 f v t=V (if r=J then 0 else 13):=by
 obtain⟨w1,w2⟩:=hs.wf q hg;have hln:=ig (c:=t.aN) f (zY t.aN);obtain⟨l,hle⟩:∃l,l=ja t.aN f t.aN.length:=⟨_,rfl⟩;obtain⟨i,hi,e,hr,hS⟩:=WC q hs hl t;have hin:i=zY t.aN:=by
  rcases hS with h|⟨h1,h2⟩
  ·exact h
  ·exact dS (hg i h1) h2
 subst hin;rw[<-hle]at e w1 w2 hln ⊢;have hz:=J5 q w1 au;have e118:=Qc q;have Jc:=amy w1 au w2;have abQ:=ahO f v hz;obtain⟨W,hW⟩:∃W,W=uM (l.map (cellOf f v)):=⟨_,rfl⟩;rw[<-hW]at abQ ⊢;have hWc:zY W.aN=zY t.aN:=by rw[hW];simp[uM,hln]
 have hWk:∀x∈W.aN,zY x.aq<=1000/\zY x.cv<=1000:=λx hx=>by
  rw[hW]at hx;obtain⟨y,hy,rfl⟩:=zM.1 hx;obtain⟨k,hk,rfl⟩:=xd hy;refine⟨?_,?_⟩
  ·have:=hz.Je k hk;rw[getElem!_pos _ k hk]at this;exact this
  ·show zY (if _ then _ else _:af Int)<=_;split
   ·exact(by decide:(1:Nat)<=1000)
   ·exact yU _
 have hWs:∀x∈W.cv,zY x.aM<=1000:=λx hx=>by
  rw[hW]at hx;exact hz.mem hx
 obtain⟨r1,e1,-⟩:=adQ (q:=Zs) (a:=t.aN) (b:=W.aN) au λhle i hi=>adi _ _ (hWk _ (bf au)).1 (hWk _ (bf au)).2;obtain⟨r2,e2,i2⟩:=adQ (q:=Zu) (a:=t.cv) (b:=W.cv) au λhle i hi=>⟨_,Hj _ _ (hWs _ (bf au))⟩;obtain⟨r3,e3,i3⟩:=adQ (q:=m31) (a:=t.cv) (b:=W.cv) au λhle i hi=>⟨_,Mn _ _ (hWs _ (bf au))⟩;have h23:r3=r2:=by
  rw[Bool.eq_iff_iff,i2,i3];refine and_congr_right λhle=>⟨λh k hk=> ?_,λh k hk=> ?_⟩
  ·rw[Hj _ _ (hWs _ (bf au)),<-Mn _ _ (hWs _ (bf au))];exact h k hk
  ·rw[Mn _ _ (hWs _ (bf au)),<-Hj _ _ (hWs _ (bf au))];exact h k hk
 subst h23;have aau:amA t.aN W.aN=V r1:=e1;have e71:m71 t.cv W.cv=V r3:=e2;have Q5:aet t.aN W.aN=V r1:=e1;have acX:asG t.cv W.cv=V r3:=e3;have n1:¬(8192:Int)<(zY t.aN:Int):=au;have n3:(0:Int)<(zY t.aN:Int):=by have:=hs.ne;omega
 have n4:(0:Int)<=(zY t.aN:Int):=au;have n5:(zY t.aN:Int)<=1073741824:=au;have hp:=hs.ne;have e0:([cellOf f v ⟨0,0,[],mX f⟩])[0]!.dw=mX f:=rfl;have x1:(0:Int)<((0+1:Nat):Int):=by decide
 have x2:0<0+1:=by decide
 refine⟨r3&&r1,?_,?_⟩
 ·unfold m56;rw[acX,Q5];cases r3<;>cases r1<;>rfl
 ·unfold m59 Jv It lJ;simp only[cG,cD,e118,n1,Jc,n4,n5,yw,yA,y5,n3,hp,cW,zj,e0,x1,x2,e,yx,abQ,aau,e71];cases r3<;>cases r1<;>rfl
def ah9(q:Cx f v){t:aW}(hl:zY t.aN<=8192)(hn:¬(BA t.aN/\∀i,i<zY t.aN->Ed t.aN f i)):m59 f v t=V 13:=by
 have e118:=Qc q;obtain⟨r,Jc,hr⟩:=abu hl;have n1:¬(8192:Int)<(zY t.aN:Int):=au;cases r with
 |false=>
  unfold m59 Jv It lJ;simp only[cG,cD,e118,n1,Jc]
 |true=>
  have hs:=hr rfl;obtain⟨i,hi,e,hI,hS⟩:=WC q hs hl t;have hS:i<zY t.aN/\¬Ed t.aN f i:=by
   rcases hS with h|h
   ·exact dS ⟨hs,h▸hI⟩ hn
   ·exact h
  obtain⟨hi,hg⟩:=hS;obtain⟨YA,YU,g2⟩:=YT q hs hl hi hI t;have hBl:=jL t.aN f i;have i1:(i:Int)<(zY t.aN:Int):=au;have i2:(0:Int)<=(i:Int):=au;have gl:zY ((ja t.aN f i++[(⟨0,0,[],(dD t.aN f i)[i]!⟩:Part)]).map (cellOf f v))<=1073741824:=by simp[ig];omega
  have n3:(0:Int)<(zY t.aN:Int):=by have:=hs.ne;omega
  have n4:(0:Int)<=(zY t.aN:Int):=au;have n5:(zY t.aN:Int)<=1073741824:=au;have hp:=hs.ne;have e0:([cellOf f v ⟨0,0,[],mX f⟩])[0]!.dw=mX f:=rfl;have x1:(0:Int)<((0+1:Nat):Int):=by decide
  have x2:0<0+1:=by decide
  obtain⟨nk,hn⟩:=Ed.no hg;have nk1:¬(zY t.aN[i]!.aq:Int)=0:=by
   have:=wH.2 nk;omega
  unfold m59 Jv It lJ;rcases hn with d1|⟨d1,d2⟩|⟨d1,d2,d3⟩|⟨d1,d2,d3,d4⟩
  ·simp only[cG,cD,e118,n1,Jc,n4,n5,yw,yA,y5,n3,hp,cW,zj,e0,x1,x2,e,i1,i2,hBl,hi,YA,YU,g2,gl,nk1,d1]
  ·simp only[cG,cD,e118,n1,Jc,n4,n5,yw,yA,y5,n3,hp,cW,zj,e0,x1,x2,e,i1,i2,hBl,hi,YA,YU,g2,gl,nk1,d1,d2]
  ·have z1:(0:Int)<=t.aN[i]!.aZ:=au;have z2:t.aN[i]!.aZ<((dD t.aN f i)[i]!.length:Int):=au;simp only[cG,cD,e118,n1,Jc,n4,n5,yw,yA,y5,n3,hp,cW,zj,e0,x1,x2,e,i1,i2,hBl,hi,YA,YU,g2,gl,nk1,d1,d2,d3,z1,z2]
  ·have z1:(0:Int)<=t.aN[i]!.aZ:=au;have z2:t.aN[i]!.aZ<((dD t.aN f i)[i]!.length:Int):=au;simp only[cG,cD,e118,n1,Jc,n4,n5,yw,yA,y5,n3,hp,cW,zj,e0,x1,x2,e,i1,i2,hBl,hi,YA,YU,g2,gl,nk1,d1,d2,d3,d4,z1,z2]
def azZ(f:aS)(v:bU)(t:aW):m11 f v t=V J:=by
 obtain⟨r,e46,h46⟩:=auD f v;unfold m11;cases r with
 |false=>simp only[cD,m45,e46]
 |true=>
  have c:=h46 rfl;by_cases h1:(40:Int)<(zY t.aN:Int)
  ·simp only[cD,m45,e46,h1,DB]
  by_cases h2:(40:Int)<(zY t.cv:Int)
  ·simp only[cG,cD,m45,e46,h1,h2]
  obtain⟨⟨l,b⟩,e60,hr⟩:=auI (c:=t.aN) c au (t:=t) rfl;rcases hr with ⟨hb,hl,hs,hg⟩|⟨hb,hn⟩
  ·dsimp only at hb hl;subst hb hl;obtain⟨w1,w2⟩:=hs.wf c hg;have hln:=ig (c:=t.aN) f (zY t.aN);obtain⟨r,e56,e59⟩:=aev c hs hg au au;have e57:=atf c w1 au;cases r with
   |true=>simp only[cG,cD,m45,e46,h1,h2,e60,e57,e56,e59,cW]
   |false=>simp only[cG,cD,m45,e46,h1,h2,e60,e57,e56,e59,yy,IY]
  ·dsimp only at hb;subst hb;have e59:=ah9 c au hn;simp only[cG,cD,m45,e46,h1,h2,e60,e59]
end
end Go.Proofs.YtnfljbehcffmcaaGreat
end
noncomputable section
namespace Go.Iv
variable [U:EU]
open Go Go.RowKit Go.Deep Go.ChangeShapes Go.WideShapes Go.Joins
def avv{P:Program}{f:FuncId}{args:af AV}(h:Iv.Fn P f args [] (λa s=>a= .b J/\s=[])){A:Nat->Prop}{w:World}{vs:af Value}(hr:bN A w args vs):
  Calls P f vs.toArray w λe w'=>∃v,e= .returned v/\v= .bool J/\Below w.heap.size w w':=
 (h w A vs hr ⟨λr hr=>by simp at hr,λb hb=>by simp[bC]at hb⟩ (by simp[bC])).mono λe w' ⟨v,av,σ',h1,⟨h2,h3⟩,h4,h5⟩=>by
  subst h2;exact⟨v,h1,h5.cL,h4.kp.below⟩
abbrev rz:Nat->Prop:=λ_=>True
def kC{α:Type}{H:Type}(enc:TypeId×Value->H)(P:Program)(w:World)(t:TypeId)(c:α->af AV)(ok:α->Prop):Prop:=
 ∀(base:Nat) (fuel:Nat) (cs:af Value) (x:DataW H×af MemPlace),DataW.trod enc P w base (λ_=>J) J fuel t cs=V x->∃a,ok a/\bN rz w (c a) cs
section
variable {α:Type} {H:Type} {enc:TypeId×Value->H} {P:Program} {w:World} {t e:TypeId}
def kC.int{k:IntKind}(ht:P.underlying t=V (.int k)):kC enc P w t (cN k) (λn=>(Lit.int k n).wf=J):=λbase fuel cs x h=>by
 obtain⟨n,rfl,_,hw⟩:=DataW.trod_int ht h;exact⟨n,hw,bN.cons (.lit _) bN.nil⟩
def kC.bool(ht:P.underlying t=V .bool):kC enc P w t cB (λ_=>True):=λbase fuel cs x h=>by
 obtain⟨b,rfl,_⟩:=DataW.trod_bool ht h;exact⟨b,trivial,bN.cons (.lit _) bN.nil⟩
def kC.slice{ok:U.de e->Prop}{sz:Nat}(ht:P.underlying t=V (.slice e))(hc:P.cellsOf e=sz+1)(hs:U.sz e=sz+1)(he:kC enc P w e (U.cells e) ok):
  kC enc P w t (λl:af (U.de e)=>[.sl e l]) (λl=>zY l<=9223372036854775807/\∀a∈l,ok a):=λbase fuel cs x h=>by
 rcases open_slice ht h with ⟨rfl,_⟩|⟨a,len,cp,m,n,D,Pl,hcs,hb,hl,hm,hmm,_,hx⟩
 ·refine⟨[],⟨by simp,by simp⟩,bN.cons ?_ bN.nil⟩;exact .sl e ([]:af (U.de e)) G 0 (λ_ _=>default) (by simp) (by simp) (λi hi=>by simp at hi) (λi hi=>by simp at hi) (λi j a hi=>by simp at hi)
 ·subst hcs;have hmm:m=cp:=by rw[hmm];rfl
  rw[hc]at hx;have hmx:cp<=9223372036854775807:=by unfold maxLen at hm;omega
  obtain⟨CS,hCS⟩:=choose_lt (α:=af Value×U.de e) (p:=λi y=>w.cells? base (a.add (i*(sz+1))) (sz+1)=V y.1/\ok y.2/\bN rz w (U.cells e y.2) y.1) (n:=len) (λi hi=>by
   obtain⟨cs',h1,h2⟩:=hx i au;obtain⟨y,h3,h4⟩:=he _ _ _ _ h2;exact⟨(cs',y),h1,h3,h4⟩)
  obtain⟨l,hld⟩:∃l:af (U.de e),l=(zH len).map λi=>(CS i).2:=⟨_,rfl⟩;have hln:zY l=len:=by rw[hld];simp
  have hget:∀i,i<len->l[i]! =(CS i).2:=λi hi=>by
   rw[getElem!_pos l i au];simp[hld]
  refine⟨l,⟨au,λy hy=> ?_⟩,bN.cons ?_ bN.nil⟩
  ·rw[hld,zM]at hy;obtain⟨i,hi,rfl⟩:=hy;exact(hCS i (by simpa using hi)).2.1
  ·rw[<-hln];refine .sl e l (V a) cp (λi j=>(CS i).1[j]!) au au (λi hi=> ?_) (λi hi=> ?_) (λi j av hi hj=> ?_)
   ·rw[hln]at hi;obtain⟨h1,_,h3⟩:=hCS i hi;obtain⟨_,h5,_⟩:=World.cells?_some h1;rw[hget i hi,<-h3.1,h5,hs]
   ·rw[hln]at hi;obtain⟨h1,_,h3⟩:=hCS i hi;obtain⟨_,h5,h6⟩:=World.cells?_some h1;have hj:∀j,j<sz+1->w.cell? ((a.add (i*(sz+1))).add j)=V (CS i).1[j]! :=λj hj=>by
     rw[h6 j hj,getElem!_pos _ j au,zm au]
    obtain⟨b,off,spot⟩:=a;have hs:spot=G:=by
     obtain⟨g1,_,_⟩:=hCS 0 au;obtain⟨_,g5,g6⟩:=World.cells?_some g1;have:=World.cell?_spot (v:=(CS 0).1[0]!) (w:=w) (a:=((⟨b,off,spot⟩:Addr).add (0*(sz+1))).add 0) (by rw[g6 0 au,getElem!_pos _ 0 au,zm au]);simpa [Addr.add]using this
    subst hs;have hj':∀j,j<sz+1->w.cell? ⟨b,off+i*(sz+1)+j,G⟩=V (CS i).1[j]! :=λj hlt=>by
     have:=hj j hlt;have ap:∀o i:Nat,(⟨b,o,G⟩:Addr).add i=⟨b,o+i,G⟩:=λo i=>by
      unfold Addr.add;split
      ·rename_i h0;simp only[h0,yg]
      ·rfl
     rw[ap,ap]at this;exact this
    exact⟨b,off,rfl,World.block_lt_of_cell? w _ (hj' 0 au),trivial,by rw[hs];exact hj'⟩
   ·rw[hln]at hi;rw[hget i hi]at hj;obtain⟨h1,_,h3⟩:=hCS i hi;obtain⟨v,q1,q2⟩:=h3.get hj;show Rel rz w av (CS i).1[j]!;obtain⟨q3,q4⟩:=z7.1 q1;rw[getElem!_pos _ j q3,q4];exact q2
def kC.agg{c:α->af AV}{ok:α->Prop}{v:Value}{cs:Array Value}{d:DataW H}{p:af MemPlace}(he:kC enc P w t c ok)(hv:v= .agg cs)(h:DataW.Trod enc P w 0 (λ_=>J) J t v d p):∃a,ok a/\Rel rz w (.agg (c a)) v:=by
 obtain⟨fuel,hf⟩:=h;subst hv;obtain⟨l⟩:=cs;obtain⟨a,h1,h2⟩:=he _ _ _ _ hf;exact⟨a,h1,Rel.qA h2⟩
end
def N4.law[L:Ec]{P:Program}{f:FuncId}{args:af AV}{x:Out}(h:N4 P f args [] 0 x)(hx:x=⟨.b J,[],0⟩)(ha:args.all (Ja 2)=J):Iv.Fn P f args [] (λa s=>a= .b J/\s=[]):=by
 subst hx;have h1:=h ⟨λ_=>undef,λ_=>0⟩;have:args.map (b7.sub ⟨λ_=>undef,λ_=>0⟩)=args.map id:=zX λc hcm=>kO 2 (zw.1 ha c hcm);rw[this,List.map_id]at h1;exact h1.mono λa s ⟨ρ',_,e1,e2⟩=>⟨by rw[e1];exact kO 2 rfl,List.Perm.eq_nil e2⟩
def cw{A:Nat->Prop}{w:World}{xs bs:af AV}{us:af Value}{n:Nat}(h:bN A w xs (us.take n))(h':bN A w bs (us.drop n)):bN A w (xs++bs) us:=by
 have:=h.app h'
 rwa [xA]at this
def MI(B:Nat){α:Type}{H:Type}(enc:TypeId×Value->H)(P:Program)(w:World)(t:TypeId)(c:α->af AV)(ok:α->Prop):Prop:=
 ∀(base:Nat) (fuel:Nat),fuel<B->∀(cs:af Value) (x:DataW H×af MemPlace),DataW.trod enc P w base (λ_=>J) J fuel t cs=V x->∃a,ok a/\bN rz w (c a) cs
section
variable {α:Type} {H:Type} {enc:TypeId×Value->H} {P:Program} {w:World} {t e:TypeId}
def kC.ofB{c:α->af AV}{ok:α->Prop}(h:∀B,MI B enc P w t c ok):kC enc P w t c ok:=λbase fuel cs x hx=>h (fuel+1) base fuel (zC _) cs x hx
def kC.str(ht:P.underlying t=V .string):kC enc P w t (λs=>[.s s]) (λ_=>True):=λbase fuel cs x h=>by
 obtain⟨b,rfl,_⟩:=DataW.trod_string ht h;exact⟨b,trivial,bN.cons (.lit _) bN.nil⟩
def kC.any{c:α->af AV}{ok:α->Prop}(h:kC enc P w t c ok):kC enc P w t c (λ_=>True):=λbase fuel cs x hx=>by
 obtain⟨a,_,r⟩:=h base fuel cs x hx;exact⟨a,trivial,r⟩
def MI.slice{B:Nat}{ok:U.de e->Prop}{sz:Nat}(ht:P.underlying t=V (.slice e))(hc:P.cellsOf e=sz+1)(hs:U.sz e=sz+1)(he:MI B enc P w e (U.cells e) ok):
  MI B enc P w t (λl:af (U.de e)=>[.sl e l]) (λl=>zY l<=9223372036854775807/\∀a∈l,ok a):=λbase fuel hB cs x h=>by
 rcases DataW.trod_slice ht h with ⟨rfl,_⟩|⟨a,len,cp,elems,rest,n,hfu,hcs,_,hb,hl,hm,hlen,hx,_,_⟩
 ·refine⟨[],⟨by simp,by simp⟩,bN.cons ?_ bN.nil⟩;exact .sl e ([]:af (U.de e)) G 0 (λ_ _=>default) (by simp) (by simp) (λi hi=>by simp at hi) (λi hi=>by simp at hi) (λi j a hi=>by simp at hi)
 ·subst hcs;rw[hc]at hx;have hmx:cp<=9223372036854775807:=by unfold maxLen at hm;omega
  obtain⟨CS,hCS⟩:=choose_lt (α:=af Value×U.de e) (p:=λi y=>w.cells? base (a.add (i*(sz+1))) (sz+1)=V y.1/\ok y.2/\bN rz w (U.cells e y.2) y.1) (n:=len) (λi hi=>by
   have hk:=hx i hi;rw[zm (show i<zY elems by omega)]at hk;obtain⟨cs',h1,h2⟩:=zu.1 hk;obtain⟨y,h3,h4⟩:=he _ n au _ _ h2;exact⟨(cs',y),h1,h3,h4⟩)
  obtain⟨l,hld⟩:∃l:af (U.de e),l=(zH len).map λi=>(CS i).2:=⟨_,rfl⟩;have hln:zY l=len:=by rw[hld];simp
  have hget:∀i,i<len->l[i]! =(CS i).2:=λi hi=>by
   rw[getElem!_pos l i au];simp[hld]
  refine⟨l,⟨au,λy hy=> ?_⟩,bN.cons ?_ bN.nil⟩
  ·rw[hld,zM]at hy;obtain⟨i,hi,rfl⟩:=hy;exact(hCS i (by simpa using hi)).2.1
  ·rw[<-hln];refine .sl e l (V a) cp (λi j=>(CS i).1[j]!) au au (λi hi=> ?_) (λi hi=> ?_) (λi j av hi hj=> ?_)
   ·rw[hln]at hi;obtain⟨h1,_,h3⟩:=hCS i hi;obtain⟨_,h5,_⟩:=World.cells?_some h1;rw[hget i hi,<-h3.1,h5,hs]
   ·rw[hln]at hi;obtain⟨h1,_,h3⟩:=hCS i hi;obtain⟨_,h5,h6⟩:=World.cells?_some h1;have hj:∀j,j<sz+1->w.cell? ((a.add (i*(sz+1))).add j)=V (CS i).1[j]! :=λj hj=>by
     rw[h6 j hj,getElem!_pos _ j au,zm au]
    obtain⟨b,off,spot⟩:=a;have hs:spot=G:=by
     obtain⟨g1,_,_⟩:=hCS 0 au;obtain⟨_,g5,g6⟩:=World.cells?_some g1;have:=World.cell?_spot (v:=(CS 0).1[0]!) (w:=w) (a:=((⟨b,off,spot⟩:Addr).add (0*(sz+1))).add 0) (by rw[g6 0 au,getElem!_pos _ 0 au,zm au]);simpa [Addr.add]using this
    subst hs;have hj':∀j,j<sz+1->w.cell? ⟨b,off+i*(sz+1)+j,G⟩=V (CS i).1[j]! :=λj hlt=>by
     have:=hj j hlt;have ap:∀o i:Nat,(⟨b,o,G⟩:Addr).add i=⟨b,o+i,G⟩:=λo i=>by
      unfold Addr.add;split
      ·rename_i h0;simp only[h0,yg]
      ·rfl
     rw[ap,ap]at this;exact this
    exact⟨b,off,rfl,World.block_lt_of_cell? w _ (hj' 0 au),trivial,by rw[hs];exact hj'⟩
   ·rw[hln]at hi;rw[hget i hi]at hj;obtain⟨h1,_,h3⟩:=hCS i hi;obtain⟨v,q1,q2⟩:=h3.get hj;show Rel rz w av (CS i).1[j]!;obtain⟨q3,q4⟩:=z7.1 q1;rw[getElem!_pos _ j q3,q4];exact q2
end
end Go.Iv
end
noncomputable section
set_option maxRecDepth 100000
namespace Go.Proofs.YtnfljbehcffmcaaGreat
open Go Go.Iv Go.RowKit Go.Deep Go.ChangeShapes Go.WideShapes Go.Joins
section
variable {H:Type} {enc:TypeId×Value->H} {w:World}
def og9:kC enc vp w 9 (λs=>[.s s]) (λ_=>True):=kC.str underlying9
def aCY:kC enc vp w 129 (cN .i64) (λ_=>True):=(kC.int underlying129).any
def Y3:kC enc vp w 3 (cN .i64) (λ_=>True):=(kC.int underlying3).any
def ayN:kC enc vp w 131 (uni.cells 131) (λ_=>True):=λbase fuel cs x h=>by
 obtain⟨xs,n,hfu,rfl,hl,hlen,hf⟩:=DataW.trod_struct underlying131 h;rw[show vp.cellsOf 131=5 from aY]at hl;have hlen:zY xs=5:=hlen;have f0:DataW.trod enc vp w base (λ_=>J) J n 9 ((cs.drop 0).take (vp.cellsOf 9))=xs[0]? :=hf 0 _ rfl;rw[show vp.cellsOf 9=1 from aY,zm (show 0<zY xs by omega)]at f0;obtain⟨a0,_,r0⟩:=og9 _ _ _ _ f0;have f1:DataW.trod enc vp w base (λ_=>J) J n 129 ((cs.drop 1).take (vp.cellsOf 129))=xs[1]? :=hf 1 _ rfl;rw[show vp.cellsOf 129=1 from aY,zm (show 1<zY xs by omega)]at f1;obtain⟨a1,_,r1⟩:=aCY _ _ _ _ f1;have f2:DataW.trod enc vp w base (λ_=>J) J n 3 ((cs.drop 2).take (vp.cellsOf 3))=xs[2]? :=hf 2 _ rfl;rw[show vp.cellsOf 3=1 from aY,zm (show 2<zY xs by omega)]at f2;obtain⟨a2,_,r2⟩:=Y3 _ _ _ _ f2;have f3:DataW.trod enc vp w base (λ_=>J) J n 3 ((cs.drop 3).take (vp.cellsOf 3))=xs[3]? :=hf 3 _ rfl;rw[show vp.cellsOf 3=1 from aY,zm (show 3<zY xs by omega)]at f3;obtain⟨a3,_,r3⟩:=Y3 _ _ _ _ f3;have f4:DataW.trod enc vp w base (λ_=>J) J n 3 ((cs.drop 4).take (vp.cellsOf 3))=xs[4]? :=hf 4 _ rfl;rw[show vp.cellsOf 3=1 from aY,zm (show 4<zY xs by omega)]at f4;obtain⟨a4,_,r4⟩:=Y3 _ _ _ _ f4;have e:bN rz w [] (cs.drop 5):=by rw[xH au];exact bN.nil
 have s4:=cw (us:=cs.drop 4) r4 (by rw[zK];exact e);have s3:=cw (us:=cs.drop 3) r3 (by rw[zK];exact s4);have s2:=cw (us:=cs.drop 2) r2 (by rw[zK];exact s3);have s1:=cw (us:=cs.drop 1) r1 (by rw[zK];exact s2);have s0:=cw (us:=cs.drop 0) r0 (by rw[zK];exact s1);exact⟨(⟨a0,a1,a2,a3,a4⟩:bh),trivial,s0⟩
def aGh:kC enc vp w 22 (λl:af (uni.de 131)=>[.sl 131 l]) (λl=>zY l<=9223372036854775807/\∀a∈l,True):=kC.slice (e:=131) (sz:=4) underlying22 aY rfl ayN
def ayA:kC enc vp w 134 (cN .i64) (λ_=>True):=(kC.int underlying134).any
def aek:∀B,MI B enc vp w 137 (uni.cells 137) (λ_=>True)
 |0=>λbase fuel hB=>dS hB (y7 _)
 |B+1=>λbase fuel hB cs x h=>by
  have ih:=aek B;obtain⟨xs,n,hfu,rfl,hl,hlen,hf⟩:=DataW.trod_struct underlying137 h;rw[show vp.cellsOf 137=3 from aY]at hl;have hlen:zY xs=3:=hlen;have f0:DataW.trod enc vp w base (λ_=>J) J n 134 ((cs.drop 0).take (vp.cellsOf 134))=xs[0]? :=hf 0 _ rfl;rw[show vp.cellsOf 134=1 from aY,zm (show 0<zY xs by omega)]at f0;obtain⟨a0,_,r0⟩:=ayA _ _ _ _ f0;have f1:DataW.trod enc vp w base (λ_=>J) J n 3 ((cs.drop 1).take (vp.cellsOf 3))=xs[1]? :=hf 1 _ rfl;rw[show vp.cellsOf 3=1 from aY,zm (show 1<zY xs by omega)]at f1;obtain⟨a1,_,r1⟩:=Y3 _ _ _ _ f1;have f2:DataW.trod enc vp w base (λ_=>J) J n 135 ((cs.drop 2).take (vp.cellsOf 135))=xs[2]? :=hf 2 _ rfl;rw[show vp.cellsOf 135=1 from aY,zm (show 2<zY xs by omega)]at f2;obtain⟨a2,_,r2⟩:=MI.slice (t:=135) (e:=137) (sz:=2) underlying135 aY rfl ih base n au _ _ f2;have e:bN rz w [] (cs.drop 3):=by rw[xH au];exact bN.nil
  have s2:=cw (us:=cs.drop 2) r2 (by rw[zK];exact e);have s1:=cw (us:=cs.drop 1) r1 (by rw[zK];exact s2);have s0:=cw (us:=cs.drop 0) r0 (by rw[zK];exact s1);exact⟨(⟨a0,a1,a2⟩:az),trivial,s0⟩
def aqV:kC enc vp w 137 (uni.cells 137) (λ_=>True):=kC.ofB aek
def ax2:kC enc vp w 139 (uni.cells 139) (λ_=>True):=λbase fuel cs x h=>by
 obtain⟨xs,n,hfu,rfl,hl,hlen,hf⟩:=DataW.trod_struct underlying139 h;rw[show vp.cellsOf 139=6 from aY]at hl;have hlen:zY xs=4:=hlen;have f0:DataW.trod enc vp w base (λ_=>J) J n 9 ((cs.drop 0).take (vp.cellsOf 9))=xs[0]? :=hf 0 _ rfl;rw[show vp.cellsOf 9=1 from aY,zm (show 0<zY xs by omega)]at f0;obtain⟨a0,_,r0⟩:=og9 _ _ _ _ f0;have f1:DataW.trod enc vp w base (λ_=>J) J n 3 ((cs.drop 1).take (vp.cellsOf 3))=xs[1]? :=hf 1 _ rfl;rw[show vp.cellsOf 3=1 from aY,zm (show 1<zY xs by omega)]at f1;obtain⟨a1,_,r1⟩:=Y3 _ _ _ _ f1;have f2:DataW.trod enc vp w base (λ_=>J) J n 3 ((cs.drop 2).take (vp.cellsOf 3))=xs[2]? :=hf 2 _ rfl;rw[show vp.cellsOf 3=1 from aY,zm (show 2<zY xs by omega)]at f2;obtain⟨a2,_,r2⟩:=Y3 _ _ _ _ f2;have f3:DataW.trod enc vp w base (λ_=>J) J n 137 ((cs.drop 3).take (vp.cellsOf 137))=xs[3]? :=hf 3 _ rfl;rw[show vp.cellsOf 137=3 from aY,zm (show 3<zY xs by omega)]at f3;obtain⟨a3,_,r3⟩:=aqV _ _ _ _ f3;have e:bN rz w [] (cs.drop 6):=by rw[xH au];exact bN.nil
 have s3:=cw (us:=cs.drop 3) r3 (by rw[zK];exact e);have s2:=cw (us:=cs.drop 2) r2 (by rw[zK];exact s3);have s1:=cw (us:=cs.drop 1) r1 (by rw[zK];exact s2);have s0:=cw (us:=cs.drop 0) r0 (by rw[zK];exact s1);exact⟨(⟨a0,a1,a2,a3⟩:dN),trivial,s0⟩
def aGZ:kC enc vp w 23 (λl:af (uni.de 139)=>[.sl 139 l]) (λl=>zY l<=9223372036854775807/\∀a∈l,True):=kC.slice (e:=139) (sz:=5) underlying23 aY rfl ax2
def aCA:kC enc vp w 164 (cN .i64) (λ_=>True):=(kC.int underlying164).any
def aeQ:kC enc vp w 27 (λl:af (uni.de 3)=>[.sl 3 l]) (λl=>zY l<=9223372036854775807/\∀a∈l,True):=kC.slice (e:=3) (sz:=0) underlying27 aY rfl Y3
def acV:∀B,MI B enc vp w 166 (uni.cells 166) (λ_=>True)
 |0=>λbase fuel hB=>dS hB (y7 _)
 |B+1=>λbase fuel hB cs x h=>by
  have ih:=acV B;obtain⟨xs,n,hfu,rfl,hl,hlen,hf⟩:=DataW.trod_struct underlying166 h;rw[show vp.cellsOf 166=10 from aY]at hl;have hlen:zY xs=8:=hlen;have f0:DataW.trod enc vp w base (λ_=>J) J n 164 ((cs.drop 0).take (vp.cellsOf 164))=xs[0]? :=hf 0 _ rfl;rw[show vp.cellsOf 164=1 from aY,zm (show 0<zY xs by omega)]at f0;obtain⟨a0,_,r0⟩:=aCA _ _ _ _ f0;have f1:DataW.trod enc vp w base (λ_=>J) J n 3 ((cs.drop 1).take (vp.cellsOf 3))=xs[1]? :=hf 1 _ rfl;rw[show vp.cellsOf 3=1 from aY,zm (show 1<zY xs by omega)]at f1;obtain⟨a1,_,r1⟩:=Y3 _ _ _ _ f1;have f2:DataW.trod enc vp w base (λ_=>J) J n 3 ((cs.drop 2).take (vp.cellsOf 3))=xs[2]? :=hf 2 _ rfl;rw[show vp.cellsOf 3=1 from aY,zm (show 2<zY xs by omega)]at f2;obtain⟨a2,_,r2⟩:=Y3 _ _ _ _ f2;have f3:DataW.trod enc vp w base (λ_=>J) J n 3 ((cs.drop 3).take (vp.cellsOf 3))=xs[3]? :=hf 3 _ rfl;rw[show vp.cellsOf 3=1 from aY,zm (show 3<zY xs by omega)]at f3;obtain⟨a3,_,r3⟩:=Y3 _ _ _ _ f3;have f4:DataW.trod enc vp w base (λ_=>J) J n 137 ((cs.drop 4).take (vp.cellsOf 137))=xs[4]? :=hf 4 _ rfl;rw[show vp.cellsOf 137=3 from aY,zm (show 4<zY xs by omega)]at f4;obtain⟨a4,_,r4⟩:=aqV _ _ _ _ f4;have f5:DataW.trod enc vp w base (λ_=>J) J n 24 ((cs.drop 7).take (vp.cellsOf 24))=xs[5]? :=hf 5 _ rfl;rw[show vp.cellsOf 24=1 from aY,zm (show 5<zY xs by omega)]at f5;obtain⟨a5,_,r5⟩:=MI.slice (t:=24) (e:=166) (sz:=9) underlying24 aY rfl ih base n au _ _ f5;have f6:DataW.trod enc vp w base (λ_=>J) J n 24 ((cs.drop 8).take (vp.cellsOf 24))=xs[6]? :=hf 6 _ rfl;rw[show vp.cellsOf 24=1 from aY,zm (show 6<zY xs by omega)]at f6;obtain⟨a6,_,r6⟩:=MI.slice (t:=24) (e:=166) (sz:=9) underlying24 aY rfl ih base n au _ _ f6;have f7:DataW.trod enc vp w base (λ_=>J) J n 27 ((cs.drop 9).take (vp.cellsOf 27))=xs[7]? :=hf 7 _ rfl;rw[show vp.cellsOf 27=1 from aY,zm (show 7<zY xs by omega)]at f7;obtain⟨a7,_,r7⟩:=aeQ _ _ _ _ f7;have e:bN rz w [] (cs.drop 10):=by rw[xH au];exact bN.nil
  have s7:=cw (us:=cs.drop 9) r7 (by rw[zK];exact e);have s6:=cw (us:=cs.drop 8) r6 (by rw[zK];exact s7);have s5:=cw (us:=cs.drop 7) r5 (by rw[zK];exact s6);have s4:=cw (us:=cs.drop 4) r4 (by rw[zK];exact s5);have s3:=cw (us:=cs.drop 3) r3 (by rw[zK];exact s4);have s2:=cw (us:=cs.drop 2) r2 (by rw[zK];exact s3);have s1:=cw (us:=cs.drop 1) r1 (by rw[zK];exact s2);have s0:=cw (us:=cs.drop 0) r0 (by rw[zK];exact s1);exact⟨(⟨a0,a1,a2,a3,a4,a5,a6,a7⟩:aB),trivial,s0⟩
def aCK:kC enc vp w 166 (uni.cells 166) (λ_=>True):=kC.ofB acV
def aEI:kC enc vp w 24 (λl:af (uni.de 166)=>[.sl 166 l]) (λl=>zY l<=9223372036854775807/\∀a∈l,True):=kC.slice (e:=166) (sz:=9) underlying24 aY rfl aCK
def aHO:kC enc vp w 26 (uni.cells 26) (λ_=>True):=λbase fuel cs x h=>by
 obtain⟨xs,n,hfu,rfl,hl,hlen,hf⟩:=DataW.trod_struct underlying26 h;rw[show vp.cellsOf 26=3 from aY]at hl;have hlen:zY xs=3:=hlen;have f0:DataW.trod enc vp w base (λ_=>J) J n 22 ((cs.drop 0).take (vp.cellsOf 22))=xs[0]? :=hf 0 _ rfl;rw[show vp.cellsOf 22=1 from aY,zm (show 0<zY xs by omega)]at f0;obtain⟨a0,_,r0⟩:=aGh _ _ _ _ f0;have f1:DataW.trod enc vp w base (λ_=>J) J n 23 ((cs.drop 1).take (vp.cellsOf 23))=xs[1]? :=hf 1 _ rfl;rw[show vp.cellsOf 23=1 from aY,zm (show 1<zY xs by omega)]at f1;obtain⟨a1,_,r1⟩:=aGZ _ _ _ _ f1;have f2:DataW.trod enc vp w base (λ_=>J) J n 24 ((cs.drop 2).take (vp.cellsOf 24))=xs[2]? :=hf 2 _ rfl;rw[show vp.cellsOf 24=1 from aY,zm (show 2<zY xs by omega)]at f2;obtain⟨a2,_,r2⟩:=aEI _ _ _ _ f2;have e:bN rz w [] (cs.drop 3):=by rw[xH au];exact bN.nil
 have s2:=cw (us:=cs.drop 2) r2 (by rw[zK];exact e);have s1:=cw (us:=cs.drop 1) r1 (by rw[zK];exact s2);have s0:=cw (us:=cs.drop 0) r0 (by rw[zK];exact s1);exact⟨(⟨a0,a1,a2⟩:aS),trivial,s0⟩
def og4:kC enc vp w 4 cB (λ_=>True):=kC.bool underlying4
def aEO:kC enc vp w 29 (uni.cells 29) (λ_=>True):=λbase fuel cs x h=>by
 obtain⟨xs,n,hfu,rfl,hl,hlen,hf⟩:=DataW.trod_struct underlying29 h;rw[show vp.cellsOf 29=2 from aY]at hl;have hlen:zY xs=2:=hlen;have f0:DataW.trod enc vp w base (λ_=>J) J n 27 ((cs.drop 0).take (vp.cellsOf 27))=xs[0]? :=hf 0 _ rfl;rw[show vp.cellsOf 27=1 from aY,zm (show 0<zY xs by omega)]at f0;obtain⟨a0,_,r0⟩:=aeQ _ _ _ _ f0;have f1:DataW.trod enc vp w base (λ_=>J) J n 4 ((cs.drop 1).take (vp.cellsOf 4))=xs[1]? :=hf 1 _ rfl;rw[show vp.cellsOf 4=1 from aY,zm (show 1<zY xs by omega)]at f1;obtain⟨a1,_,r1⟩:=og4 _ _ _ _ f1;have e:bN rz w [] (cs.drop 2):=by rw[xH au];exact bN.nil
 have s1:=cw (us:=cs.drop 1) r1 (by rw[zK];exact e);have s0:=cw (us:=cs.drop 0) r0 (by rw[zK];exact s1);exact⟨(⟨a0,a1⟩:bU),trivial,s0⟩
def aG5:kC enc vp w 47 (uni.cells 47) (λ_=>True):=λbase fuel cs x h=>by
 obtain⟨xs,n,hfu,rfl,hl,hlen,hf⟩:=DataW.trod_struct underlying47 h;rw[show vp.cellsOf 47=2 from aY]at hl;have hlen:zY xs=2:=hlen;have f0:DataW.trod enc vp w base (λ_=>J) J n 27 ((cs.drop 0).take (vp.cellsOf 27))=xs[0]? :=hf 0 _ rfl;rw[show vp.cellsOf 27=1 from aY,zm (show 0<zY xs by omega)]at f0;obtain⟨a0,_,r0⟩:=aeQ _ _ _ _ f0;have f1:DataW.trod enc vp w base (λ_=>J) J n 3 ((cs.drop 1).take (vp.cellsOf 3))=xs[1]? :=hf 1 _ rfl;rw[show vp.cellsOf 3=1 from aY,zm (show 1<zY xs by omega)]at f1;obtain⟨a1,_,r1⟩:=Y3 _ _ _ _ f1;have e:bN rz w [] (cs.drop 2):=by rw[xH au];exact bN.nil
 have s1:=cw (us:=cs.drop 1) r1 (by rw[zK];exact e);have s0:=cw (us:=cs.drop 0) r0 (by rw[zK];exact s1);exact⟨(⟨a0,a1⟩:aC),trivial,s0⟩
end
end Go.Proofs.YtnfljbehcffmcaaGreat
end
noncomputable section
set_option maxRecDepth 100000
namespace Go.Proofs.YtnfljbehcffmcaaGreat
open Go Go.Iv
open Go.IntKind (i64 u64)
def aus:fZ vp 11 0 (d11.pat J)=⟨.b J,[],0⟩:=aY
def asM(f:aS)(v:bU)(t:aW):Iv.Fn vp 11 [.agg (uni.cells 26 f), .agg (uni.cells 29 v), .agg (uni.cells 84 t)] [] (λa s=>a= .b J/\s=[]):=(h11 (f,v,t,()) J (azZ f v t)).law aus aY
section
variable {H:Type} {enc:TypeId×Value->H} {w:World}
def aHN:kC enc vp w 50 (λl:af (uni.de 47)=>[.sl 47 l]) (λl=>zY l<=9223372036854775807/\∀a∈l,True):=kC.slice (e:=47) (sz:=1) underlying50 aY rfl aG5
def aBl:kC enc vp w 117 (uni.cells 117) (λ_=>True):=λbase fuel cs x h=>by
 obtain⟨xs,n,hfu,rfl,hl,hlen,hf⟩:=DataW.trod_struct underlying117 h;rw[show vp.cellsOf 117=5 from aY]at hl;have hlen:zY xs=5:=hlen;have f0:DataW.trod enc vp w base (λ_=>J) J n 3 ((cs.drop 0).take (vp.cellsOf 3))=xs[0]? :=hf 0 _ rfl;rw[show vp.cellsOf 3=1 from aY,zm (show 0<zY xs by omega)]at f0;obtain⟨a0,_,r0⟩:=Y3 _ _ _ _ f0;have f1:DataW.trod enc vp w base (λ_=>J) J n 3 ((cs.drop 1).take (vp.cellsOf 3))=xs[1]? :=hf 1 _ rfl;rw[show vp.cellsOf 3=1 from aY,zm (show 1<zY xs by omega)]at f1;obtain⟨a1,_,r1⟩:=Y3 _ _ _ _ f1;have f2:DataW.trod enc vp w base (λ_=>J) J n 27 ((cs.drop 2).take (vp.cellsOf 27))=xs[2]? :=hf 2 _ rfl;rw[show vp.cellsOf 27=1 from aY,zm (show 2<zY xs by omega)]at f2;obtain⟨a2,_,r2⟩:=aeQ _ _ _ _ f2;have f3:DataW.trod enc vp w base (λ_=>J) J n 27 ((cs.drop 3).take (vp.cellsOf 27))=xs[3]? :=hf 3 _ rfl;rw[show vp.cellsOf 27=1 from aY,zm (show 3<zY xs by omega)]at f3;obtain⟨a3,_,r3⟩:=aeQ _ _ _ _ f3;have f4:DataW.trod enc vp w base (λ_=>J) J n 3 ((cs.drop 4).take (vp.cellsOf 3))=xs[4]? :=hf 4 _ rfl;rw[show vp.cellsOf 3=1 from aY,zm (show 4<zY xs by omega)]at f4;obtain⟨a4,_,r4⟩:=Y3 _ _ _ _ f4;have e:bN rz w [] (cs.drop 5):=by rw[xH au];exact bN.nil
 have s4:=cw (us:=cs.drop 4) r4 (by rw[zK];exact e);have s3:=cw (us:=cs.drop 3) r3 (by rw[zK];exact s4);have s2:=cw (us:=cs.drop 2) r2 (by rw[zK];exact s3);have s1:=cw (us:=cs.drop 1) r1 (by rw[zK];exact s2);have s0:=cw (us:=cs.drop 0) r0 (by rw[zK];exact s1);exact⟨(⟨a0,a1,a2,a3,a4⟩:Cell),trivial,s0⟩
def aGp:kC enc vp w 82 (λl:af (uni.de 117)=>[.sl 117 l]) (λl=>zY l<=9223372036854775807/\∀a∈l,True):=kC.slice (e:=117) (sz:=4) underlying82 aY rfl aBl
def aGL:kC enc vp w 84 (uni.cells 84) (λ_=>True):=λbase fuel cs x h=>by
 obtain⟨xs,n,hfu,rfl,hl,hlen,hf⟩:=DataW.trod_struct underlying84 h;rw[show vp.cellsOf 84=2 from aY]at hl;have hlen:zY xs=2:=hlen;have f0:DataW.trod enc vp w base (λ_=>J) J n 50 ((cs.drop 0).take (vp.cellsOf 50))=xs[0]? :=hf 0 _ rfl;rw[show vp.cellsOf 50=1 from aY,zm (show 0<zY xs by omega)]at f0;obtain⟨a0,_,r0⟩:=aHN _ _ _ _ f0;have f1:DataW.trod enc vp w base (λ_=>J) J n 82 ((cs.drop 1).take (vp.cellsOf 82))=xs[1]? :=hf 1 _ rfl;rw[show vp.cellsOf 82=1 from aY,zm (show 1<zY xs by omega)]at f1;obtain⟨a1,_,r1⟩:=aGp _ _ _ _ f1;have e:bN rz w [] (cs.drop 2):=by rw[xH au];exact bN.nil
 have s1:=cw (us:=cs.drop 1) r1 (by rw[zK];exact e);have s0:=cw (us:=cs.drop 0) r0 (by rw[zK];exact s1);exact⟨(⟨a0,a1⟩:aW),trivial,s0⟩
end
end Go.Proofs.YtnfljbehcffmcaaGreat
end
